/- Operations on two values. -/
import Derived.Test.YtcpeljfjgbjnjaaDoorVOpQ
import Derived.Laws.Cover3
namespace Go.Vi
open Go.RowKit

section
variable {P : Program} {T : Ty} {X : Cx} {w : World}

/-- An operation of two as the machine carries it out. -/
def binSem (op : BinOp) (t : TypeId) (x y : Operand) (a b : Value) : Sem Value := do eqGuard op t x y a b; binOp op t a b
theorem ibeq (x y : Int) : (x == y) = decide (x = y) := by
  by_cases h : x = y <;> simp [h]
theorem beqd (b : Bool) : (decide (b = true)) = b := by cases b <;> rfl
theorem int_sound {op : BinOp} {t : TypeId} {x y : Operand} {k k' : IntKind} {p q : Int} {v : V} {r : Bool} (h : intE op k k' p q = some (v, r)) (hr : r = true) :
    ∃ u, (binSem op t x y (.int k p) (.int k' q)).run P w = .ok u w ∧ Rep X w v (.val u) := by
  unfold intE at h
  by_cases hk : k = k'
  · subst hk
    cases op <;> (try simp only [if_true] at h) <;> first | (cases h; done) | skip
    all_goals
      (simp only [Option.some.injEq, Prod.mk.injEq] at h
       obtain ⟨rfl, rfl⟩ := h)
    case add => exact ⟨.int k (k.wrap (p + q)), by simp [binSem, eqGuard, binOp, Op.intArith], rep_int_mk⟩
    case sub => exact ⟨.int k (k.wrap (p - q)), by simp [binSem, eqGuard, binOp, Op.intArith], rep_int_mk⟩
    case mul => exact ⟨.int k (k.wrap (p * q)), by simp [binSem, eqGuard, binOp, Op.intArith], rep_int_mk⟩
    case quo =>
      simp only [Bool.not_eq_true', decide_eq_false_iff_not] at hr
      exact ⟨.int k (k.wrap (p.tdiv q)), by simp [binSem, eqGuard, binOp, Op.intDiv, hr], rep_int_mk⟩
    case rem =>
      simp only [Bool.not_eq_true', decide_eq_false_iff_not] at hr
      exact ⟨.int k (p.tmod q), by simp [binSem, eqGuard, binOp, Op.intDiv, hr], rep_int_mk⟩
    case and => exact ⟨.int k (andI k p q), by simp [binSem, eqGuard, binOp, Op.intBits, andI], rep_int_mk⟩
    case or => exact ⟨.int k (orI k p q), by simp [binSem, eqGuard, binOp, Op.intBits, orI], rep_int_mk⟩
    case xor => exact ⟨.int k (xorI k p q), by simp [binSem, eqGuard, binOp, Op.intBits, xorI], rep_int_mk⟩
    case andNot => exact ⟨.int k (andNotI k p q), by simp [binSem, eqGuard, binOp, Op.intBits, andNotI], rep_int_mk⟩
    case shl =>
      have hr : ¬ q < 0 := by simpa using hr
      exact ⟨.int k (shlI k p q), by simp [binSem, eqGuard, binOp, Op.shift, shlI, hr], rep_int_mk⟩
    case shr =>
      have hr : ¬ q < 0 := by simpa using hr
      exact ⟨.int k (shrI k p q), by simp [binSem, eqGuard, binOp, Op.shift, shrI, hr], rep_int_mk⟩
    case eql => exact ⟨.bool (decide (p = q)), by simp [binSem, eqGuard, binOp, Op.intCmp, ibeq], rep_bool_mk⟩
    case neq => exact ⟨.bool (!decide (p = q)), by simp [binSem, eqGuard, binOp, Op.intCmp, ibeq, bne], rep_bool_mk⟩
    case lss => exact ⟨.bool (decide (p < q)), by simp [binSem, eqGuard, binOp, Op.intCmp], rep_bool_mk⟩
    case leq => exact ⟨.bool (decide (p ≤ q)), by simp [binSem, eqGuard, binOp, Op.intCmp], rep_bool_mk⟩
    case gtr => exact ⟨.bool (decide (q < p)), by simp [binSem, eqGuard, binOp, Op.intCmp], rep_bool_mk⟩
    case geq => exact ⟨.bool (decide (q ≤ p)), by simp [binSem, eqGuard, binOp, Op.intCmp], rep_bool_mk⟩
  · cases op <;> (try simp only [if_neg hk] at h) <;> first | (cases h; done) | skip
    all_goals
      (simp only [Option.some.injEq, Prod.mk.injEq] at h
       obtain ⟨rfl, rfl⟩ := h)
    case shl =>
      have hr : ¬ q < 0 := by simpa using hr
      exact ⟨.int k (shlI k p q), by simp [binSem, eqGuard, binOp, Op.shift, shlI, hr], rep_int_mk⟩
    case shr =>
      have hr : ¬ q < 0 := by simpa using hr
      exact ⟨.int k (shrI k p q), by simp [binSem, eqGuard, binOp, Op.shift, shrI, hr], rep_int_mk⟩

theorem strEq (s u : ByteArray) : (s.toList == u.toList) = decide (s = u) := by
  rw [ByteArray.toList_eq, ByteArray.toList_eq]
  by_cases h : s = u
  · simp [h]
  · have hne : ¬ s.data = u.data := fun e => h (by
      cases s; cases u
      congr 1)
    simp [h, hne]

/-! ### structs of scalars -/
theorem shapeOk_leaf {k : LK} {v : V} (h : shapeOk k v = true) : v.leaf = true := (reshape_eq h).2
theorem one_of_desc {t : TypeId} {i : TI} (F : TyFacts P t i) (h : isAggD i.desc = false) (w : World) {vs : Array Value} {o : Nat} {v : Value} (hv : vs[o]? = some v) : (part t vs o).run P w = .ok v w := by
  unfold part
  rw [Sem.run_bind, run_isAgg F, h]
  simp only [Result.andThen_ok, Bool.false_eq_true, if_false]
  rw [hv]
  rfl
theorem eqFields_flat (hT : TabOk P T) (d : Nat) {vx vy : Array Value} : ∀ (fields : List Field) (ks : List LK) (o : Nat) (xs ys : List V), flatTy T (fields.map fun f => (f.offset, f.type)) ks o = true → (∀ f, f ∈ fields → f.name ≠ "_") →
    shapesEq ks xs = true → shapesEq ks ys = true → RepL X w xs (.vals (vx.toList.drop o)) → RepL X w ys (.vals (vy.toList.drop o)) →
    (Op.eqFields (d + 1) vx vy fields).run P w = .ok (eqCells ks xs ys) w
  | [], ks, o, xs, ys, h, _, _, _, _, _ => by
    cases ks with
    | nil => simp [Op.eqFields, eqCells]
    | cons k ks => simp [flatTy] at h
  | f :: fs, ks, o, xs, ys, h, hn, hx, hy, rx, ry => by
    cases ks with
    | nil => simp [flatTy] at h
    | cons k ks =>
      cases xs with
      | nil => simp [shapesEq] at hx
      | cons x xs =>
        cases ys with
        | nil => simp [shapesEq] at hy
        | cons y ys =>
          simp only [List.map_cons, flatTy, Bool.and_eq_true] at h
          simp only [shapesEq, Bool.and_eq_true] at hx hy
          cases hi : T f.type with
          | none => rw [hi] at h; cases h.1
          | some i =>
            rw [hi] at h
            simp only [Bool.and_eq_true, beq_iff_eq] at h
            obtain ⟨⟨h0, h1⟩, h2⟩ := h
            have F := hT.facts hi
            unfold RepL at rx ry
            obtain ⟨u, us, ex, rx1, rx2⟩ := rx
            obtain ⟨v, vs, ey, ry1, ry2⟩ := ry
            have hux : vx[o]? = some u := by
              have : (vx.toList.drop o)[0]? = some u := by rw [ex]; rfl
              simpa using this
            have hvy : vy[o]? = some v := by
              have : (vy.toList.drop o)[0]? = some v := by rw [ey]; rfl
              simpa using this
            have edx : vx.toList.drop (o + 1) = us := by rw [← List.tail_drop, ex]; rfl
            have edy : vy.toList.drop (o + 1) = vs := by rw [← List.tail_drop, ey]; rfl
            have ih := eqFields_flat hT d fs ks (o + 1) xs ys h2 (fun g hg => hn g (List.mem_cons_of_mem _ hg)) hx.2 hy.2 (by rw [edx]; exact rx2) (by rw [edy]; exact ry2)
            have key : ∀ b : Bool, isAggD i.desc = false → (Op.equalIn (d + 1) f.type u v).run P w = .ok b w → (Op.eqFields (d + 1) vx vy (f :: fs)).run P w = .ok (b && eqCells ks xs ys) w := by
              intro b ha hb
              have hpx := one_of_desc F ha w (o := o) hux
              have hpy := one_of_desc F ha w (o := o) hvy
              simp only [Op.eqFields, if_pos (hn f List.mem_cons_self), Sem.run_bind, h0, hpx, hpy, hb, Result.andThen_ok]
              cases b
              · simp
              · simpa using ih
            simp only [eqCells, List.headD_cons, List.tail_cons]
            cases hd : i.desc <;> rw [hd] at h1 <;> cases k <;> first | (cases h1; done) | skip
            case int.int a b =>
              cases x <;> first | (exfalso; simp [shapeOk] at hx; done) | skip
              cases y <;> first | (exfalso; simp [shapeOk] at hy; done) | skip
              have e1 := rep_int rx1
              have e2 := rep_int ry1
              subst e1 e2
              have k1 := hx.1.2
              have k2 := hy.1.2
              simp only [shapeOk, beq_iff_eq] at k1 k2
              subst k1
              rw [← k2] at *
              refine key _ (by rw [hd]; rfl) ?_
              rw [run_equalIn_int w d f.type _ _ _ _ (und_int F hd), ibeq]
              rfl
            case bool.bool =>
              cases x <;> first | (exfalso; simp [shapeOk] at hx; done) | skip
              cases y <;> first | (exfalso; simp [shapeOk] at hy; done) | skip
              have e1 := rep_bool rx1
              have e2 := rep_bool ry1
              subst e1 e2
              refine key _ (by rw [hd]; rfl) ?_
              have hu : P.underlying f.type = some .bool := by
                obtain ⟨dd, d1, d2⟩ := F.und
                rw [hd] at d2
                cases dd <;> first | (exfalso; simp [tdOk] at d2; done) | skip
                exact d1
              rw [run_equalIn_bool w d f.type _ _ hu]
              rfl
            case str.str =>
              cases x <;> first | (exfalso; simp [shapeOk] at hx; done) | skip
              cases y <;> first | (exfalso; simp [shapeOk] at hy; done) | skip
              have e1 := rep_str rx1
              have e2 := rep_str ry1
              subst e1 e2
              refine key _ (by rw [hd]; rfl) ?_
              rw [run_equalIn_string w d f.type _ _ (und_string F hd), strEq]
              rfl
theorem eq_struct (hT : TabOk P T) {t : TypeId} {i : TI} {fs : List (Nat × TypeId)} (hi : T t = some i) (hd : i.desc = .struct fs) (hf : flatTy T fs i.lk 0 = true) (hp : flatP P t = true) {xs ys : List V} {va vb : Value}
    (hx : shapesEq i.lk xs = true) (hy : shapesEq i.lk ys = true) (ha : Rep X w (.agg xs) (.val va)) (hb : Rep X w (.agg ys) (.val vb)) :
    ∃ vx vy, va = .agg vx ∧ vb = .agg vy ∧ P.eqGuardType P.depth t = false ∧ (Op.equalIn 10000 t va vb).run P w = .ok (eqCells i.lk xs ys) w := by
  unfold flatP at hp
  simp only [Bool.and_eq_true, Bool.not_eq_true', List.all_eq_true, bne_iff_ne] at hp
  obtain ⟨⟨h1, h2⟩, h3⟩ := hp
  unfold Rep at ha hb
  obtain ⟨vx, rfl, rx⟩ := ha
  obtain ⟨vy, rfl, ry⟩ := hb
  refine ⟨vx, vy, rfl, rfl, h2, ?_⟩
  have F := hT.facts hi
  have hfo : P.underlying t = some (.struct (P.fieldsOf t)) ∧ ((P.fieldsOf t).toList.map fun f => (f.offset, f.type)) = fs := by
    obtain ⟨d, d1, d2⟩ := F.und
    rw [hd] at d2
    cases d <;> first | (simp only [tdOk] at d2; done) | (exfalso; simp [tdOk] at d2; done) | skip
    simp only [tdOk, beq_iff_eq] at d2
    unfold Program.fieldsOf
    rw [d1]
    exact ⟨rfl, d2⟩
  rw [show (10000 : Nat) = 9998 + 1 + 1 from rfl, run_equalIn_struct w _ t vx vy hfo.1 h1]
  exact eqFields_flat hT 9998 _ i.lk 0 xs ys (by rw [hfo.2]; exact hf) (fun f hf => h3 f hf) hx hy (by simpa using rx) (by simpa using ry)

theorem und_bool (hT : TabOk P T) {t : TypeId} (h : tyIs T t isBoolD = true) : P.underlying t = some .bool := by
  obtain ⟨i, hi, hp⟩ := tyIs_spec h
  obtain ⟨d, d1, d2⟩ := (hT.facts hi).und
  cases hd : i.desc <;> rw [hd] at hp d2 <;> first | (cases hp; done) | skip
  cases d <;> first | (exfalso; simp [tdOk] at d2; done) | skip
  exact d1
theorem und_sl (hT : TabOk P T) {t : TypeId} (h : tyIs T t isSliceD = true) : ∃ e, P.underlying t = some (.slice e) := by
  obtain ⟨i, hi, hp⟩ := tyIs_spec h
  obtain ⟨d, d1, d2⟩ := (hT.facts hi).und
  cases hd : i.desc <;> rw [hd] at hp d2 <;> first | (cases hp; done) | skip
  cases d <;> first | (exfalso; simp [tdOk] at d2; done) | skip
  exact ⟨_, d1⟩
theorem und_ptr (hT : TabOk P T) {t : TypeId} (h : tyIs T t isPtrD = true) : P.underlying t = some (.pointer (P.pointee t)) := by
  obtain ⟨i, hi, hp⟩ := tyIs_spec h
  obtain ⟨d, d1, d2⟩ := (hT.facts hi).und
  cases hd : i.desc <;> rw [hd] at hp d2 <;> first | (cases hp; done) | skip
  cases d <;> first | (exfalso; simp [tdOk] at d2; done) | skip
  unfold Program.pointee
  rw [d1]
theorem und_func (hT : TabOk P T) {t : TypeId} (h : tyIs T t isFuncD = true) : ∃ a b c, P.underlying t = some (.func a b c) := by
  obtain ⟨i, hi, hp⟩ := tyIs_spec h
  obtain ⟨d, d1, d2⟩ := (hT.facts hi).und
  cases hd : i.desc <;> rw [hd] at hp d2 <;> first | (cases hp; done) | skip
  cases d <;> first | (exfalso; simp [tdOk] at d2; done) | skip
  exact ⟨_, _, _, d1⟩
theorem eq_slice_nil {t e : TypeId} {x y : Operand} (h : P.underlying t = some (.slice e)) (A : Option Addr) (l c : Nat) : (binSem .eql t x y (.slice A l c) (.slice none 0 0)).run P w = .ok (.bool A.isNone) w ∧ (binSem .neq t x y (.slice A l c) (.slice none 0 0)).run P w = .ok (.bool (!A.isNone)) w := by
  have := run_equal_slice_nil (P := P) w t e A l c h
  exact ⟨by simp [binSem, eqGuard, binOp, this], by simp [binSem, eqGuard, binOp, this]⟩
theorem eq_ptr_nil {t : TypeId} {x y : Operand} (h : P.underlying t = some (.pointer (P.pointee t))) (p : Option Addr) : (binSem .eql t x y (.pointer p) (.pointer none)).run P w = .ok (.bool p.isNone) w ∧ (binSem .neq t x y (.pointer p) (.pointer none)).run P w = .ok (.bool (!p.isNone)) w := by
  have h1 := run_eql_pointer_nil (P := P) w t p h
  have h2 := run_neq_pointer_nil (P := P) w t p h
  exact ⟨by simp [binSem, eqGuard, h1], by simp [binSem, eqGuard, h2]⟩
theorem eq_fn_nil (hT : TabOk P T) {t : TypeId} {x y : Operand} (h : tyIs T t isFuncD = true) (f : Fn) (a c : Array Value) : (binSem .eql t x y (.func f a c) .nilFunc).run P w = .ok (.bool false) w ∧ (binSem .neq t x y (.func f a c) .nilFunc).run P w = .ok (.bool true) w := by
  obtain ⟨p, q, r, hu⟩ := und_func hT h
  have : ∀ d : Nat, (Op.equalIn (d + 1) t (.func f a c) .nilFunc).run P w = .ok false w := fun d => by simp [Op.equalIn, run_underlying hu]
  have h' := this 9999
  exact ⟨by simp [binSem, eqGuard, binOp, Op.equal, Op.maxDepth, h'], by simp [binSem, eqGuard, binOp, Op.equal, Op.maxDepth, h']⟩
theorem eq_ptr_ptr {t : TypeId} {x y : Operand} (h : P.underlying t = some (.pointer (P.pointee t))) (hi : (P.info? (P.pointee t)).isSome = true) (a : Addr) : (binSem .eql t x y (.pointer (some a)) (.pointer (some a))).run P w = .ok (.bool true) w ∧ (binSem .neq t x y (.pointer (some a)) (.pointer (some a))).run P w = .ok (.bool false) w := by
  obtain ⟨j, hj⟩ := Option.isSome_iff_exists.1 hi
  have : ∀ d : Nat, (Op.equalIn (d + 1) t (.pointer (some a)) (.pointer (some a))).run P w = .ok true w := fun d => by
    simp [Op.equalIn, run_underlying h, sizeOf, typeInfo, hj, run_sameAddr_same]
  have h' := this 9999
  exact ⟨by simp [binSem, eqGuard, binOp, Op.equal, Op.maxDepth, h'], by simp [binSem, eqGuard, binOp, Op.equal, Op.maxDepth, h']⟩
theorem bin_sound (hT : TabOk P T) {op : BinOp} {t : TypeId} {x y : Operand} {a b v : V} {r : Bool} {va vb : Value} (hty : binTy T op t a = true) (h : binE P T X.H op t a b = some (v, r)) (hr : r = true)
    (ha : Rep X w a (.val va)) (hb : Rep X w b (.val vb)) : ∃ u, (binSem op t x y va vb).run P w = .ok u w ∧ Rep X w v (.val u) := by
  unfold binE at h
  split at h
  · rename_i n _ _
    simp only [Option.some.injEq, Prod.mk.injEq] at h
    obtain ⟨rfl, rfl⟩ := h
    obtain ⟨e, hu⟩ := und_sl hT hty
    unfold Rep holds at hb
    obtain ⟨_, rfl⟩ := hb
    unfold Rep holds at ha
    cases n with
    | true => obtain ⟨_, rfl⟩ := ha; exact ⟨.bool true, (eq_slice_nil hu _ _ _).1, rep_bool_mk⟩
    | false => obtain ⟨A, cap, rfl, _⟩ := ha; exact ⟨.bool false, (eq_slice_nil hu _ _ _).1, rep_bool_mk⟩
  · rename_i n _ _
    simp only [Option.some.injEq, Prod.mk.injEq] at h
    obtain ⟨rfl, rfl⟩ := h
    obtain ⟨e, hu⟩ := und_sl hT hty
    unfold Rep holds at hb
    obtain ⟨_, rfl⟩ := hb
    unfold Rep holds at ha
    cases n with
    | true => obtain ⟨_, rfl⟩ := ha; exact ⟨.bool false, (eq_slice_nil hu _ _ _).2, rep_bool_mk⟩
    | false => obtain ⟨A, cap, rfl, _⟩ := ha; exact ⟨.bool true, (eq_slice_nil hu _ _ _).2, rep_bool_mk⟩
  · split at h
    case isFalse => cases h
    rename_i hal
    simp only [Option.some.injEq, Prod.mk.injEq] at h
    obtain ⟨rfl, rfl⟩ := h
    obtain ⟨e, hu⟩ := und_sl hT hty
    unfold Rep holds at hb
    obtain ⟨_, rfl⟩ := hb
    obtain ⟨A, cap, rfl, _⟩ := rep_own_val hal ha
    exact ⟨.bool false, (eq_slice_nil hu _ _ _).1, rep_bool_mk⟩
  · split at h
    case isFalse => cases h
    rename_i hal
    simp only [Option.some.injEq, Prod.mk.injEq] at h
    obtain ⟨rfl, rfl⟩ := h
    obtain ⟨e, hu⟩ := und_sl hT hty
    unfold Rep holds at hb
    obtain ⟨_, rfl⟩ := hb
    obtain ⟨A, cap, rfl, _⟩ := rep_own_val hal ha
    exact ⟨.bool true, (eq_slice_nil hu _ _ _).2, rep_bool_mk⟩
  · split at h
    case isFalse => cases h
    rename_i hal
    simp only [Option.some.injEq, Prod.mk.injEq] at h
    obtain ⟨rfl, rfl⟩ := h
    have hv := rep_ref hal ha
    subst hv
    unfold Rep holds at hb
    subst hb
    exact ⟨.bool false, (eq_ptr_nil (und_ptr hT hty) _).1, rep_bool_mk⟩
  · split at h
    case isFalse => cases h
    rename_i hal
    simp only [Option.some.injEq, Prod.mk.injEq] at h
    obtain ⟨rfl, rfl⟩ := h
    have hv := rep_ref hal ha
    subst hv
    unfold Rep holds at hb
    subst hb
    exact ⟨.bool true, (eq_ptr_nil (und_ptr hT hty) _).2, rep_bool_mk⟩
  · split at h
    case isFalse => cases h
    rename_i hal
    simp only [Bool.and_eq_true, beq_iff_eq] at hal
    obtain ⟨⟨⟨hal, rfl⟩, rfl⟩, hi⟩ := hal
    simp only [Option.some.injEq, Prod.mk.injEq] at h
    obtain ⟨rfl, rfl⟩ := h
    have hv := rep_ref hal ha
    have hv' := rep_ref hal hb
    subst hv hv'
    exact ⟨.bool true, (eq_ptr_ptr (und_ptr hT hty) hi _).1, rep_bool_mk⟩
  · split at h
    case isFalse => cases h
    rename_i hal
    simp only [Bool.and_eq_true, beq_iff_eq] at hal
    obtain ⟨⟨⟨hal, rfl⟩, rfl⟩, hi⟩ := hal
    simp only [Option.some.injEq, Prod.mk.injEq] at h
    obtain ⟨rfl, rfl⟩ := h
    have hv := rep_ref hal ha
    have hv' := rep_ref hal hb
    subst hv hv'
    exact ⟨.bool false, (eq_ptr_ptr (und_ptr hT hty) hi _).2, rep_bool_mk⟩
  · simp only [Option.some.injEq, Prod.mk.injEq] at h
    obtain ⟨rfl, rfl⟩ := h
    unfold Rep holds at ha hb
    subst ha hb
    exact ⟨.bool true, (eq_ptr_nil (und_ptr hT hty) _).1, rep_bool_mk⟩
  · simp only [Option.some.injEq, Prod.mk.injEq] at h
    obtain ⟨rfl, rfl⟩ := h
    unfold Rep holds at ha hb
    subst ha hb
    exact ⟨.bool false, (eq_ptr_nil (und_ptr hT hty) _).2, rep_bool_mk⟩
  · simp only [Option.some.injEq, Prod.mk.injEq] at h
    obtain ⟨rfl, rfl⟩ := h
    unfold Rep holds at ha hb
    obtain ⟨cs, rfl, _⟩ := ha
    subst hb
    exact ⟨.bool false, (eq_fn_nil hT hty _ _ _).1, rep_bool_mk⟩
  · simp only [Option.some.injEq, Prod.mk.injEq] at h
    obtain ⟨rfl, rfl⟩ := h
    unfold Rep holds at ha hb
    obtain ⟨cs, rfl, _⟩ := ha
    subst hb
    exact ⟨.bool true, (eq_fn_nil hT hty _ _ _).2, rep_bool_mk⟩
  · rename_i s u
    simp only [Option.some.injEq, Prod.mk.injEq] at h
    obtain ⟨rfl, rfl⟩ := h
    rw [decide_eq_true_eq] at hr
    have e1 := rep_str ha
    have e2 := rep_str hb
    subst e1 e2
    have hmax : IntKind.i64.max = 9223372036854775807 := rfl
    have hn : ¬ (9223372036854775807 : Int) < (s.size : Int) + (u.size : Int) := by omega
    exact ⟨.string (s ++ u), by simp [binSem, eqGuard, binOp, Op.stringOp, hmax, hn], rep_str_mk⟩
  · rename_i s u
    simp only [Option.some.injEq, Prod.mk.injEq] at h
    obtain ⟨rfl, rfl⟩ := h
    have e1 := rep_str ha
    have e2 := rep_str hb
    subst e1 e2
    exact ⟨.bool (decide (s = u)), by simp only [binSem, eqGuard, binOp, Op.stringOp, strEq]; simp, rep_bool_mk⟩
  · rename_i s u
    simp only [Option.some.injEq, Prod.mk.injEq] at h
    obtain ⟨rfl, rfl⟩ := h
    have e1 := rep_str ha
    have e2 := rep_str hb
    subst e1 e2
    exact ⟨.bool (!decide (s = u)), by simp only [binSem, eqGuard, binOp, Op.stringOp, strEq]; simp, rep_bool_mk⟩
  · have e1 := rep_int ha
    have e2 := rep_int hb
    subst e1 e2
    exact int_sound h hr
  · rename_i p q
    simp only [Option.some.injEq, Prod.mk.injEq] at h
    obtain ⟨rfl, rfl⟩ := h
    have e1 := rep_bool ha
    have e2 := rep_bool hb
    subst e1 e2
    have := run_equal_bool (P := P) w t p q (und_bool hT hty)
    exact ⟨.bool (p == q), by simp [binSem, eqGuard, binOp, this], rep_bool_mk⟩
  · rename_i p q
    simp only [Option.some.injEq, Prod.mk.injEq] at h
    obtain ⟨rfl, rfl⟩ := h
    have e1 := rep_bool ha
    have e2 := rep_bool hb
    subst e1 e2
    have := run_equal_bool (P := P) w t p q (und_bool hT hty)
    exact ⟨.bool (!(p == q)), by simp [binSem, eqGuard, binOp, this], rep_bool_mk⟩
  · rename_i xs ys
    cases hi : T t with
    | none => rw [hi] at h; cases h
    | some i =>
      rw [hi] at h
      dsimp only at h
      cases hd : i.desc <;> rw [hd] at h <;> first | (cases h; done) | skip
      dsimp only at h
      split at h
      case isFalse => cases h
      rename_i hf
      simp only [Bool.and_eq_true] at hf
      simp only [Option.some.injEq, Prod.mk.injEq] at h
      obtain ⟨rfl, rfl⟩ := h
      simp only [Bool.and_eq_true] at hr
      obtain ⟨vx, vy, rfl, rfl, h1, h2⟩ := eq_struct hT hi hd hf.1 hf.2 hr.1 hr.2 ha hb
      exact ⟨_, by simp only [binSem, Sem.run_bind, run_eqGuard_agg w .eql t x y vx vy h1, Result.andThen_ok, run_eql_struct, h2], rep_bool_mk⟩
  · rename_i xs ys
    cases hi : T t with
    | none => rw [hi] at h; cases h
    | some i =>
      rw [hi] at h
      dsimp only at h
      cases hd : i.desc <;> rw [hd] at h <;> first | (cases h; done) | skip
      dsimp only at h
      split at h
      case isFalse => cases h
      rename_i hf
      simp only [Bool.and_eq_true] at hf
      simp only [Option.some.injEq, Prod.mk.injEq] at h
      obtain ⟨rfl, rfl⟩ := h
      simp only [Bool.and_eq_true] at hr
      obtain ⟨vx, vy, rfl, rfl, h1, h2⟩ := eq_struct hT hi hd hf.1 hf.2 hr.1 hr.2 ha hb
      exact ⟨_, by simp only [binSem, Sem.run_bind, run_eqGuard_agg w .neq t x y vx vy h1, Result.andThen_ok, run_neq_struct, h2], rep_bool_mk⟩
  · cases h
end

end Go.Vi
