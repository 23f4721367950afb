/- Calls, regions and code, evaluated with advice: what the data decides is told ahead, and is owed. -/
import Derived.Test.YtcpeljfjgbjnjaaDoorVOpS
namespace Go.Vi
open Go.RowKit

/-! ### what a call does -/
/-- The context of pure data: S are blocks that are not to be looked at. -/
def X0 (S : Nat → Prop) : Cx := { ι := fun _ => 0, ok := fun _ => False, H := [], ph := S }
def Cx.below (X : Cx) (B : Nat) : Cx := { X with ok := fun id => X.ok id ∧ id < B }
structure Ok (C : Cfg) (X : Cx) (w : World) : Prop where
  ents : Ents X w
  lt : OkLt X
  globs : Globs C X w
/-- A call of a function, with a Go body or without, that comes back with a value. -/
def Invokes (P : Program) (f : FuncId) (vs : Array Value) (w : World) (R : Value → World → Prop) : Prop :=
  match (callFunc f vs).run P w with
  | .ok (.value v) w' => R v w'
  | .ok (.enter g us) w' => Calls P g us w' fun e w'' => ∃ v, e = .returned v ∧ R v w''
  | _ => False
/-- The contract of a function on data. -/
def PCalls (C : Cfg) (f : FuncId) (args rs : List V) : Prop :=
  ∀ (S : Nat → Prop) (w : World) (vs : List Value), (∀ b, S b → b < w.heap.size) → Globs C (X0 S) w → RepL (X0 S) w args (.vals vs) →
    Invokes C.P f vs.toArray w fun v w' => Below w.heap.size w w' ∧ Rep (X0 S) w' (pack rs) (.val v)
/-- The contract of a function that works on the caller's own memory. -/
def GCalls (C : Cfg) (f : FuncId) (args : List V) (H : List Ent) (rs : List V) (H' : List Ent) : Prop :=
  ∀ X w vs, Ok C X w → X.H = H → RepL X w args (.vals vs) →
    Invokes C.P f vs.toArray w fun v w' => ∃ X', X'.H = H' ∧ Ok C X' w' ∧ Later (X.below H.length) w (X'.below H.length) w' ∧ Rep X' w' (pack rs) (.val v)

/-! ### what code does -/
def StOk (C : Cfg) (X : Cx) (w : World) (a : Act) (s : St) : Prop := Ok C X w ∧ X.H = s.hp ∧ RepL X w s.tm (.vals a.tmps.toList)
def exitOf : Ex → Exit
  | .normal => .normal
  | .exit i => .exit i
  | .ret => .ret
/-- From a state of the interpreter's the code comes to another one; B: how many entries were there when the function was entered. -/
def Good (C : Cfg) (B : Nat) (c : Code) (s : St) (x : Ex) (s' : St) : Prop :=
  ∀ X w a, StOk C X w a s → ∀ Q : Exit → Act → World → Prop,
    (∀ X' w' a', StOk C X' w' a' s' → Later (X.below B) w (X'.below B) w' → a'.defers = a.defers → Q (exitOf x) a' w') → c.wp C.P Q a w
def child : Code → Nat → Option Code
  | .seq x _, 0 => some x
  | .seq _ y, 1 => some y
  | .cond _ x _, 0 => some x
  | .cond _ _ y, 1 => some y
  | .block _ x, 0 => some x
  | .loop x, 0 => some x
  | .scope x, 0 => some x
  | _, _ => none
/-- A part of code; the path is read from its end. -/
def codeAt (c : Code) : List Nat → Option Code
  | [] => some c
  | d :: p => match codeAt c p with
    | some x => child x d
    | none => none
def bodyOf (P : Program) (f : FuncId) : Option Code :=
  match P.funcs[f]? with
  | some fn => fn.body
  | none => none
/-- What is owed for a loop. -/
def LoopOk (C : Cfg) (f : FuncId) (p : List Nat) (B : Nat) (tm : List V) (H : List Ent) (x : Ex) (tm' : List V) (H' : List Ent) : Prop :=
  ∀ c, (bodyOf C.P f).bind (codeAt · p) = some c → Good C B c ⟨tm, H⟩ x ⟨tm', H'⟩

/-! ### the evaluator -/
inductive Adv where
  | yes
  | no
  | own
  | call (rs : List V)
  | keep (rs : List V) (H : List Ent)
  | inl
  | loop (x : Ex) (tm : List V) (H : List Ent)
  | masks (m : List (List Nat))
abbrev Ad := List Adv
def allP : List Prop → Prop
  | [] => True
  | p :: l => p ∧ allP l
/-- What a call comes to: its results, the heap, the advice that is left, what must hold. -/
abbrev CallV := FuncId → List V → List Ent → Ad → Option (List V × List Ent × Ad × Bool × List Prop)
abbrev SeqOut := Option (List V × List Ent × Ad × Bool × List Prop)
abbrev EvOut := Option (Ex × List V × List Ent × Ad × Bool × List Prop)

/-- a value of data: no reference to an entry -/
def okD : V → Bool
  | .agg l => V.leafAll l
  | v => v.leaf
def okDs : List V → Bool
  | [] => true
  | x :: l => okD x && okDs l
def kills (H : List Ent) (args : List V) : List (Nat × Ent) := ((idsL args).filter fun i => (look H i).alive).map fun i => (i, .dead)
def opV (C : Cfg) (call : CallV) (tm : List V) (H : List Ent) (slot : Nat) (op : Op) (ad : Ad) : Option (Res × Ad × List Prop) :=
  match op with
  | .pick c a b => match opd C tm c, ad with
    | .bool t, .yes :: ad => some ({ v := opd C tm a, req := t }, ad, [])
    | .bool t, .no :: ad => some ({ v := opd C tm b, req := !t }, ad, [])
    | _, _ => none
  | .call c => match c.callee with
    | .builtin _ => match ad with
      | .own :: ad => (match opE true C tm H slot (.call c) with
        | some r => some (r, ad, [])
        | none => none)
      | _ => match opE false C tm H slot (.call c) with
        | some r => some (r, ad, [])
        | none => none
    | _ => match callee C tm c with
      | some (f, args) => (match ad with
        | .call rs :: ad => (match views H args with
          | some (vs, q) => if okDs rs then some ({ v := pack rs, dl := if sliceyL rs then kills H args else [], req := q }, ad, [PCalls C f vs rs]) else none
          | none => none)
        | .keep rs H' :: ad => some ({ v := pack rs, up := some H' }, ad, [GCalls C f args H rs H'])
        | .inl :: ad => (match call f args H ad with
          | some (rs, H', ad, q, ps) => some ({ v := pack rs, up := some H', req := q }, ad, ps)
          | none => none)
        | _ => none)
      | none => none
  | op => match opE false C tm H slot op with
    | some r => some (r, ad, [])
    | none => none
def setT (tm : List V) (d : Option Tmp) (v : V) : List V :=
  match d with
  | some t => tm.set t v
  | none => tm
def gd : Bool → Bool → Bool
  | true, b => b
  | false, b => !b
/-- Is an operation carried out? -/
def wantV (ops : Array Oper) (tm : List V) (o : Oper) (ad : Ad) : Option (Bool × Ad × Bool) :=
  match o.guard with
  | none => some (true, ad, true)
  | some (j, want) => match (ops[j]?).bind (·.dst) with
    | some t => match tm.getD t .undef with
      | .bool b => (match ad with
        | .yes :: ad => some (true, ad, gd want b)
        | .no :: ad => some (false, ad, gd (!want) b)
        | _ => none)
      | .tup _ => some (false, ad, true)
      | _ => none
    | none => none
/-- A region in the order of its text. -/
def seqV (C : Cfg) (call : CallV) (ops : Array Oper) : List Oper → List V → List Ent → Ad → SeqOut
  | [], tm, H, ad => some (tm, H, ad, true, [])
  | o :: rest, tm, H, ad => match wantV ops tm o ad with
    | some (true, ad, q0) => match opV C call tm H H.length o.op ad with
      | some (r, ad, ps) => if (r.dl.map (·.1)).all (fun d => decide (d < H.length)) then (match seqV C call ops rest (setT tm o.dst r.v) (r.heap H) ad with
        | some (tm', H', ad', q, qs) => some (tm', H', ad', q0 && (r.req && q), ps ++ qs)
        | none => none) else none
      | none => none
    | some (false, ad, q0) => match seqV C call ops rest (setT tm o.dst (.tup [])) H ad with
      | some (tm', H', ad', q, qs) => some (tm', H', ad', q0 && q, qs)
      | none => none
    | none => none

/-! a region whose order is drawn: each operation is looked at in the heap that it cannot do without -/
def maskH : List Ent → List Nat → List Ent
  | H, [] => H
  | H, i :: m => (maskH H m).set i .dead
/-- the operations that must come before, by their places -/
def ancs : List Oper → List (List Nat) → List (List Nat)
  | [], l => l
  | o :: rest, l => ancs rest (l ++ [o.after.toList.foldr (fun e s => if Region.binds .any e then e.on :: (l.getD e.on [] ++ s) else s) []])
def ancOf (ops : Array Oper) : List (List Nat) := ancs ops.toList []
def comparable (an : List (List Nat)) (j k : Nat) : Bool := (an.getD j []).contains k || (an.getD k []).contains j
def isSel : Op → Bool
  | .select _ _ => true
  | _ => false
def pairOk (ops : Array Oper) (an : List (List Nat)) (j k : Nat) : Bool :=
  j == k || comparable an j k || (match ops[j]?, ops[k]? with
    | some x, some y => Oper.apart ops x y
    | _, _ => false)
/-- the temporaries of operations in no order do not meet; what binds stands ahead -/
def drawOk (ops : Array Oper) : Bool :=
  let an := ancOf ops
  (List.range ops.size).all fun j => (match ops[j]? with
    | some o => !isSel o.op && o.after.all fun e => !Region.binds .any e || decide (e.on < j)
    | none => false) && (List.range ops.size).all fun k => pairOk ops an j k
/-- what an operation writes -/
def footOf (r : Res) (slot : Nat) : List Nat :=
  r.dl.map (·.1) ++ (match r.nw with
    | some _ => [slot]
    | none => [])
def seqD (C : Cfg) (call : CallV) (ops : Array Oper) (masks : List (List Nat)) : Nat → List Oper → List V → List Ent → Ad → Option (List V × List Ent × Ad × Bool × List Prop × List (List Nat))
  | _, [], tm, H, ad => some (tm, H, ad, true, [], [])
  | i, o :: rest, tm, H, ad => match wantV ops tm o ad with
    | some (true, ad, q0) => match opV C call tm (maskH H (masks.getD i [])) H.length o.op ad with
      | some (r, ad, ps) => match r.up with
        | some _ => none
        | none => if (r.dl.map (·.1)).all (fun d => (look (maskH H (masks.getD i [])) d).alive) then (match seqD C call ops masks (i + 1) rest (setT tm o.dst r.v) (r.heap H) ad with
          | some (tm', H', ad', q, qs, fs) => some (tm', H', ad', q0 && (r.req && q), ps ++ qs, footOf r H.length :: fs)
          | none => none) else none
      | none => none
    | some (false, ad, q0) => match seqD C call ops masks (i + 1) rest (setT tm o.dst (.tup [])) H ad with
      | some (tm', H', ad', q, qs, fs) => some (tm', H', ad', q0 && q, qs, [] :: fs)
      | none => none
    | none => none
/-- what operations in no order write is masked -/
def masksOk (n : Nat) (an : List (List Nat)) (masks fs : List (List Nat)) : Bool :=
  (List.range n).all fun j => (List.range n).all fun k => j == k || comparable an j k || (fs.getD j []).all fun d => (masks.getD k []).contains d
def getMasks : Ad → List (List Nat) × Ad
  | .masks m :: ad => (m, ad)
  | ad => ([], ad)
def drawV (C : Cfg) (call : CallV) (ops : Array Oper) (tm : List V) (H : List Ent) (ad : Ad) : SeqOut :=
  if drawOk ops && C.P.follows .mixedOrders then
    match seqD C call ops (getMasks ad).1 0 ops.toList tm H (getMasks ad).2 with
    | some (tm', H', ad', q, ps, fs) => if masksOk ops.size (ancOf ops) (getMasks ad).1 fs then some (tm', H', ad', q, ps) else none
    | none => none
  else none

def iterV (f : List V → List Ent → Ad → EvOut) : Nat → List V → List Ent → Ad → EvOut
  | 0, _, _, _ => none
  | n + 1, tm, H, ad => match f tm H ad with
    | some (.normal, tm', H', ad', q, ps) => (match iterV f n tm' H' ad' with
      | some (x, tm'', H'', ad'', q', ps') => some (x, tm'', H'', ad'', q && q', ps ++ ps')
      | none => none)
    | r => r
structure Env where
  f : FuncId
  base : Nat
  fuel : Nat
  live : Nat → List Nat
def evV (C : Cfg) (call : CallV) (E : Env) : Code → List Nat → Nat → List V → List Ent → Ad → EvOut
  | .skip, _, _, tm, H, ad => some (.normal, tm, H, ad, true, [])
  | .label _, _, _, tm, H, ad => some (.normal, tm, H, ad, true, [])
  | .region _ ops dr, _, _, tm, H, ad => match (if dr then drawV C call ops tm H ad else seqV C call ops ops.toList tm H ad) with
    | some (tm', H', ad', q, ps) => some (.normal, tm', H', ad', q, ps)
    | none => none
  | .seq x y, p, b, tm, H, ad => match evV C call E x (0 :: p) b tm H ad with
    | some (.normal, tm', H', ad', q, ps) => (match evV C call E y (1 :: p) b tm' H' ad' with
      | some (e, tm'', H'', ad'', q', ps') => some (e, tm'', H'', ad'', q && q', ps ++ ps')
      | none => none)
    | r => r
  | .cond c x y, p, b, tm, H, ad => match opd C tm c, ad with
    | .bool t, .yes :: ad => (match evV C call E x (0 :: p) b tm H ad with
      | some (e, tm', H', ad', q, ps) => some (e, tm', H', ad', t && q, ps)
      | none => none)
    | .bool t, .no :: ad => (match evV C call E y (1 :: p) b tm H ad with
      | some (e, tm', H', ad', q, ps) => some (e, tm', H', ad', !t && q, ps)
      | none => none)
    | _, _ => none
  | .block id x, p, _, tm, H, ad => match evV C call E x (0 :: p) id tm H ad with
    | some (.exit i, r) => if i = id then some (.normal, r) else some (.exit i, r)
    | r => r
  | .loop x, p, b, tm, H, ad => match ad with
    | .loop e tm' H' :: ad => some (e, tm', H', ad, true, [LoopOk C E.f p E.base tm H e tm' H'])
    | ad => iterV (fun tm H ad => evV C call E x (0 :: p) b (tidy E.base (E.live b) ⟨tm, H⟩).tm (tidy E.base (E.live b) ⟨tm, H⟩).hp ad) E.fuel tm H ad
  | .exit id, _, _, tm, H, ad => some (.exit id, tm, H, ad, true, [])
  | .ret, _, _, tm, H, ad => some (.ret, tm, H, ad, true, [])
  | .scope x, p, b, tm, H, ad => evV C call E x (0 :: p) b tm H ad
  | _, _, _, _, _, _ => none
def leaveV (T : Ty) (fn : Func) : EvOut → Option (List V × List Ent × Ad × Bool × List Prop)
  | some (.normal, tm, H, ad, q, ps) | some (.ret, tm, H, ad, q, ps) => match resultE T ⟨tm, H⟩ fn.results.toList with
    | some (rs, q') => some (rs, H, ad, q && q', ps)
    | none => none
  | _ => none
def enterV (fn : Func) (args : List V) : List V := args ++ List.replicate (fn.ntmps - args.length) .undef
def runV (C : Cfg) : Nat → CallV
  | 0, _, _, _, _ => none
  | n + 1, f, args, H, ad => match C.P.funcs[f]? with
    | some fn => match fn.body with
      | some c => leaveV C.ty fn (evV C (runV C n) { f := f, base := H.length, fuel := 1000, live := C.live f } c [] 0 (enterV fn args) H ad)
      | none => none
    | none => none
/-- One round of a loop, between tidied states. -/
def roundV (C : Cfg) (n : Nat) (f : FuncId) (p : List Nat) (b B : Nat) (lv : List Nat) (tm : List V) (H : List Ent) (ad : Ad) : EvOut :=
  match (bodyOf C.P f).bind (codeAt · p) with
  | some (.loop x) => match evV C (runV C n) { f := f, base := B, fuel := 1000, live := C.live f } x (0 :: p) b tm H ad with
    | some (.normal, tm', H', ad', q, ps) => some (.normal, (tidy B lv ⟨tm', H'⟩).tm, (tidy B lv ⟨tm', H'⟩).hp, ad', q, ps)
    | r => r
  | _ => none

end Go.Vi
