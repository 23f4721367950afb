/- Every operation but calls: the machine does what the interpreter says. -/
import Derived.Test.YtcpeljfjgbjnjaaDoorVOpR
import Derived.Lib.UnsafeStr
import Derived.Lib.Builder
namespace Go.Vi
open Go.RowKit

/-- The variables that the table lists hold what it tells. -/
def Globs (C : Cfg) (X : Cx) (w : World) : Prop := ∀ g l, C.glob g = some l → Stable X w g ∧ (∀ x, x ∈ l → x.cells = [x]) ∧ RepL X w l (.at_ g 0)
theorem Globs.later {C : Cfg} {X X' : Cx} {w w' : World} (L : Later X w X' w') (h : Globs C X w) : Globs C X' w' := by
  intro g l hg
  obtain ⟨h1, h2, h3⟩ := h g l hg
  obtain ⟨k1, k2⟩ := L.st g h1
  exact ⟨k1, h2, RepL.later L l _ (fun b o e => by cases e; exact k2) h3⟩

section
variable {C : Cfg} {X : Cx} {w : World}

theorem ofLeaf_rep {v : Value} {x : V} (h : V.ofLeaf 0 v = some x) : Rep X w x (.val v) := by
  unfold V.ofLeaf at h
  split at h <;> first | (cases h; done) | skip
  all_goals (simp only [Option.some.injEq] at h; subst h; unfold Rep holds)
  all_goals first | rfl | exact ⟨rfl, rfl⟩
theorem opd_rep (hG : Globs C X w) {tm : List V} {a : Act} (ha : RepL X w tm (.vals a.tmps.toList)) (x : Operand) : Rep X w (opd C tm x) (.val (a.eval x)) := by
  cases x with
  | tmp t =>
    show Rep X w (tm.getD t .undef) (.val (a.tmps.getD t undef))
    by_cases ht : t < tm.length
    · obtain ⟨v, h1, h2⟩ := ha.get t (tm.getD t .undef) (by rw [List.getD_eq_getElem?_getD, List.getElem?_eq_getElem ht]; rfl)
      have h1' : a.tmps[t]? = some v := by simpa using h1
      have : a.tmps.getD t undef = v := by simp [h1']
      rw [this]
      exact h2
    · rw [List.getD_eq_getElem?_getD, List.getElem?_eq_none (Nat.le_of_not_lt ht)]
      exact rep_undef
  | const v =>
    by_cases hv : v = .slice none 0 0
    · subst hv
      show Rep X w (.sl 0 [] true true) (.val (.slice none 0 0))
      unfold Rep holds
      exact ⟨rfl, rfl⟩
    · have e : opd C tm (.const v) = (V.ofLeaf 0 v).getD .undef := by
        unfold opd
        split <;> first | rfl | (rename_i h; cases h; done) | skip
        · rename_i h; cases h; exact (hv rfl).elim
        · rename_i h; cases h; rfl
      rw [e]
      cases h : V.ofLeaf 0 v with
      | none => exact rep_undef
      | some x => exact ofLeaf_rep h
  | func f =>
    show Rep X w (.fn f []) (.val (.func (.func f) #[] #[]))
    unfold Rep holds
    exact ⟨#[], rfl, by unfold RepL; rfl⟩
  | global g =>
    have e : opd C tm (.global g) = match C.glob g with | some l => .cref l | none => .undef := rfl
    rw [e]
    cases h : C.glob g with
    | none => exact rep_undef
    | some l =>
      obtain ⟨h1, h2, h3⟩ := hG g l h
      unfold Rep
      exact ⟨g, 0, rfl, h1, h2, h3⟩
theorem optv_rep (hG : Globs C X w) {tm : List V} {a : Act} (ha : RepL X w tm (.vals a.tmps.toList)) (x : Option Operand) : OptRep X w (optv C tm x) (x.map a.eval) := by
  cases x with
  | none => trivial
  | some x => exact opd_rep hG ha x
theorem parts_rep (hG : Globs C X w) {tm : List V} {a : Act} (ha : RepL X w tm (.vals a.tmps.toList)) : ∀ (ps : List (Nat × Operand)), PartsRep X w (ps.map fun (i, x) => (i, opd C tm x)) (ps.map fun (i, x) => (i, a.eval x))
  | [] => trivial
  | (_, x) :: ps => ⟨rfl, opd_rep hG ha x, parts_rep hG ha ps⟩
theorem args_rep (hG : Globs C X w) {tm : List V} {a : Act} (ha : RepL X w tm (.vals a.tmps.toList)) : ∀ (xs : List Operand), RepL X w (xs.map (opd C tm)) (.vals (xs.map a.eval))
  | [] => by simp only [List.map_nil]; unfold RepL; rfl
  | x :: xs => by
    simp only [List.map_cons]
    unfold RepL
    exact ⟨_, _, rfl, opd_rep hG ha x, args_rep hG ha xs⟩
theorem fold2 {f : V → V → Option V} {g : Value → Value → Sem Value} {P : Program} (hf : ∀ x y z va vb, f x y = some z → Rep X w x (.val va) → Rep X w y (.val vb) → ∃ u, (g va vb).run P w = .ok u w ∧ Rep X w z (.val u)) :
    ∀ (l : List V) (x z : V) (va : Value) (vs : List Value), foldE f x l = some z → Rep X w x (.val va) → RepL X w l (.vals vs) → ∃ u, (vs.foldlM g va).run P w = .ok u w ∧ Rep X w z (.val u)
  | [], x, z, va, vs, h, hx, hl => by
    unfold RepL at hl
    subst hl
    simp only [foldE, Option.some.injEq] at h
    subst h
    exact ⟨va, rfl, hx⟩
  | y :: l, x, z, va, vs, h, hx, hl => by
    unfold RepL at hl
    obtain ⟨v, vs', rfl, hy, hl⟩ := hl
    simp only [foldE] at h
    cases hf' : f x y with
    | none => rw [hf'] at h; cases h
    | some z' =>
      rw [hf'] at h
      obtain ⟨u, h1, h2⟩ := hf x y z' va v hf' hx hy
      obtain ⟨u', h3, h4⟩ := fold2 hf l z' z u vs' h h2 hl
      refine ⟨u', ?_, h4⟩
      simp only [List.foldlM_cons, Sem.run_bind, h1, Result.andThen_ok, h3]
end

section
variable {C : Cfg} {X : Cx} {w : World}
theorem pure_up {v : V} {r : Res} (h : okv (some v) = some r) : r = { v := v } := by
  simp only [okv, Option.map_some, Option.some.injEq] at h
  exact h.symm
theorem data_sound {P : Program} (E : Ents X w) {slot : Nat} {ts : Array TypeId} {ty : TypeId} {x : V} {vx : Value} {r : Res} (h : dataE X.H x = some r) (hr : r.req = true) (hx : Rep X w x (.val vx)) :
    ∃ v, (Builtin.unsafeSliceData_ ts ty #[vx]).run P w = .ok v w ∧ OpPost X w slot r v w := by
  unfold dataE at h
  split at h
  · simp only [Option.some.injEq] at h
    subst h
    unfold Rep holds at hx
    simp only [if_true] at hx
    obtain ⟨_, rfl⟩ := hx
    exact ⟨.pointer none, Lib.run_unsafeSliceData_nil _ _ _ _ _, .pure E rfl rfl (by unfold Rep holds; rfl)⟩
  · rename_i id len c
    split at h
    case isFalse => cases h
    rename_i ha
    simp only [Option.some.injEq] at h
    subst h
    simp only [decide_eq_true_eq] at hr
    have hal : X.alive id := ha
    obtain ⟨A, cap, rfl, hA, c1, c2, c3⟩ := rep_own_val hal hx
    rcases hA with hA | rfl
    · omega
    · rw [Nat.zero_mul]
      refine ⟨.pointer (some ⟨X.ι id, 0, none⟩), Lib.run_unsafeSliceData_row _ _ _ _ _ _ (by omega), .pure E rfl rfl ?_⟩
      unfold Rep holds
      exact ⟨E.ok id hal, ⟨_, rfl⟩, fun _ => rfl⟩
  · cases h
theorem bytes_in : ∀ {l : List V}, bytesIn l = true → ∃ bs : List UInt8, l = bs.map byteV ∧ bytesOfL l = ⟨bs.toArray⟩
  | [], _ => ⟨[], rfl, rfl⟩
  | x :: l, h => by
    unfold bytesIn at h
    rw [List.all_cons, Bool.and_eq_true] at h
    obtain ⟨h1, h2⟩ := h
    obtain ⟨bs, e1, e2⟩ := bytes_in (l := l) h2
    simp only [Bool.and_eq_true, decide_eq_true_eq] at h1
    obtain ⟨k0, k1, k2⟩ := h1
    cases x <;> first | (cases k0; done) | skip
    rename_i k n
    simp only [shapeOk, beq_iff_eq] at k0
    subst k0
    simp only [V.asInt] at k1 k2
    refine ⟨n.toNat.toUInt8 :: bs, ?_, ?_⟩
    · rw [List.map_cons, ← e1]
      congr 1
      unfold byteV
      congr 1
      have : n.toNat.toUInt8.toNat = n.toNat := by
        rw [Nat.toUInt8_eq, UInt8.toNat_ofNat']
        exact Nat.mod_eq_of_lt (by omega)
      rw [this]
      omega
    · unfold bytesOfL at e2 ⊢
      have e2' : (l.map byteOfV) = bs := by
        have := congrArg (fun b : ByteArray => b.data.toList) e2
        simpa using this
      rw [List.map_cons, e2']
      rfl
theorem freeze_facts {b n : Nat} {w : World} : (w.freeze ⟨b, 0, none⟩ n).heap.size = w.heap.size ∧ (w.freeze ⟨b, 0, none⟩ n).os = w.os ∧ (w.freeze ⟨b, 0, none⟩ n).tape = w.tape ∧ (w.freeze ⟨b, 0, none⟩ n).output = w.output ∧
    (∀ c, c ≠ b → (w.freeze ⟨b, 0, none⟩ n).heap[c]? = w.heap[c]?) ∧ World.cellsIn (w.freeze ⟨b, 0, none⟩ n) b = World.cellsIn w b := by
  unfold World.freeze
  split
  · exact ⟨rfl, rfl, rfl, rfl, fun _ _ => rfl, rfl⟩
  · refine ⟨by simp, rfl, rfl, rfl, fun c hc => ?_, ?_⟩
    · simp only [Array.getElem?_modify]
      rw [if_neg (fun h => hc h.symm)]
    · unfold World.cellsIn
      simp only [Array.getElem?_modify, if_true]
      cases h : w.heap[b]? with
      | none => rfl
      | some o => cases o <;> rfl
theorem str_sound {P : Program} {T : Ty} (hT : TabOk P T) (E : Ents X w) {slot : Nat} {ts : Array TypeId} {ty : TypeId} {x y : V} {vx vy : Value} {r : Res} (h : strE P T X.H ts.toList x y = some r) (hr : r.req = true)
    (hx : Rep X w x (.val vx)) (hy : Rep X w y (.val vy)) : ∃ v w', (Builtin.unsafeString_ ts ty #[vx, vy]).run P w = .ok v w' ∧ OpPost X w slot r v w' := by
  unfold strE at h
  split at h
  · rename_i n
    split at h
    case h_2 => cases h
    rename_i pt it hts
    simp only [Option.some.injEq] at h
    subst h
    simp only [decide_eq_true_eq] at hr
    subst hr
    unfold Rep holds at hx hy
    subst hx hy
    have e : ts = #[pt, it] := by apply Array.toList_inj.1; rw [hts]
    refine ⟨.string .empty, w, ?_, .pure E rfl rfl (by unfold Rep holds; rfl)⟩
    rw [e]
    exact Lib.run_unsafeString_none (P := P) w pt it ty none
  · rename_i id n
    split at h
    case h_2 => cases h
    rename_i pt it xs t hts hE
    cases hj : T t with
    | none => rw [hj] at h; cases h
    | some j =>
      rw [hj] at h
      dsimp only at h
      split at h
      case isFalse => cases h
      rename_i hg
      simp only [Bool.and_eq_true, beq_iff_eq] at hg
      obtain ⟨g1, g2, g3⟩ := hg
      simp only [Option.some.injEq] at h
      subst h
      simp only [Bool.and_eq_true, decide_eq_true_eq] at hr
      obtain ⟨r1, r2, r3, r4⟩ := hr
      have G := hT.facts hj
      have hal : X.alive id := by unfold Cx.alive; rw [hE]; rfl
      unfold Rep holds at hx hy
      obtain ⟨_, _, hx⟩ := hx
      have hx := hx hal
      subst hx hy
      have hen := E.en id
      rw [hE] at hen
      obtain ⟨c, f, h1, h2, h3, h4, h5⟩ := hen
      obtain ⟨bs, b1, b2⟩ := bytes_in r4
      have hbl : bs.length = n.toNat := by
        have := congrArg List.length b1
        rw [List.length_take, List.length_map, Nat.min_eq_left r2] at this
        exact this.symm
      have hcell : ∀ k b, bs[k]? = some b → w.cell? ((⟨X.ι id, 0, none⟩ : Addr).add k) = some (.int .u8 b.toNat) := by
        intro k b hk
        have ht := repL_take_at n.toNat h5
        rw [b1, show bs.map byteV = (bs.map fun b => (b.toNat : Int)).map (V.int .u8) by rw [List.map_map]; rfl] at ht
        obtain ⟨vs, q1, q2, q3⟩ := ht.read (fun x hx => by obtain ⟨n, _, rfl⟩ := List.mem_map.1 hx; rfl)
        have := repL_ints q3
        subst this
        have e : (⟨X.ι id, 0, none⟩ : Addr).add k = ⟨X.ι id, 0 + k, none⟩ := by unfold Addr.add; split <;> simp_all
        rw [e]
        exact q2 k _ (by rw [List.getElem?_map, List.getElem?_map, hk]; rfl)
      have hrun := Lib.run_unsafeString_row (P := P) w pt it ty t (by rw [und_ptr hT g1, g2]) (by obtain ⟨inf, i1, i2, _⟩ := G.inf; unfold Program.cellsOf; rw [i1, ← g3, ← i2]; rfl) (X.ι id) c.size (by unfold World.shape?; rw [h1]) bs (by intro h0; rw [h0] at hbl; simp at hbl; omega) (by omega) (by unfold most at r3; omega) hcell
      have hn : (n : Int) = (bs.length : Int) := by rw [hbl]; omega
      have e : ts = #[pt, it] := by apply Array.toList_inj.1; rw [hts]
      obtain ⟨f1, f2, f3, f4, f5, f6⟩ := freeze_facts (b := X.ι id) (n := bs.length) (w := w)
      have hz : Ent.dead.sz = (look X.H id).sz := by rw [hE]; rfl
      have L := write_later (X := X) (e := .dead) hal hz f1 f2 f3 f4 f5 f6
      have E' := write_ents E (e := .dead) hal hz f1 f2 f3 f4 f5 f6 trivial
      refine ⟨.string ⟨bs.toArray⟩, w.freeze ⟨X.ι id, 0, none⟩ bs.length, by rw [hn, e]; exact hrun, .lift rfl L E' (fun _ h => .inl h) (by rw [b2]; unfold Rep holds; rfl) (fun H' hH id' => ?_)⟩
      have := hH id'
      rw [this]
      show dlook X.H id' [(id, _)] = look (X.H.set id _) id'
      rw [dlook_one, look_set _ _ _ (lt_of_alive hal)]
  · cases h
theorem uconv_sound {P : Program} (E : Ents X w) {slot : Nat} {s d : TypeId} {id off : Nat} {v : Value} {r : Res} (h : uconvE P X.H s d id off = some r) (hr : Rep X w (.ref id off) (.val v)) :
    (convert s d v).run P w = .ok v w ∧ OpPost X w slot r v w := by
  unfold uconvE at h
  have hshape : ∀ l bt, look X.H id = .box l bt → v = .pointer (some ⟨X.ι id, off, none⟩) ∧ w.shape? (X.ι id) = some (bt, l.length) := by
    intro l bt hE
    have hal : X.alive id := by unfold Cx.alive; rw [hE]; rfl
    have hr := hr
    unfold Rep holds at hr
    obtain ⟨_, _, hv⟩ := hr
    have hen := E.en id
    rw [hE] at hen
    obtain ⟨c, f, h1, h2, _⟩ := hen
    refine ⟨hv hal, ?_⟩
    unfold World.shape?
    rw [h1, ← h2]
  split at h
  · rename_i l bt e hE hs hd
    obtain ⟨rfl, hsh⟩ := hshape l bt hE
    cases hi : P.info? e with
    | none => rw [hi] at h; cases h
    | some j =>
      rw [hi] at h
      dsimp only at h
      split at h
      case isFalse => cases h
      rename_i hg
      simp only [Bool.and_eq_true, Bool.not_eq_true', beq_eq_false_iff_ne, decide_eq_true_eq] at hg
      simp only [Option.some.injEq] at h
      subst h
      exact ⟨Lib.run_to_unsafe w ⟨X.ι id, off, none⟩ hs hd hi hg.1 hsh hg.2, .pure E rfl rfl hr⟩
  · rename_i l bt u hE hs hd
    obtain ⟨rfl, hsh⟩ := hshape l bt hE
    cases hi : P.info? u with
    | none => rw [hi] at h; cases h
    | some j =>
      rw [hi] at h
      dsimp only at h
      split at h
      case isFalse => cases h
      rename_i hg
      simp only [Option.some.injEq] at h
      subst h
      exact ⟨Lib.run_from_unsafe w ⟨X.ι id, off, none⟩ hs hd hi hsh hg, .pure E rfl rfl hr⟩
  · cases h
theorem builtin_sound (hT : TabOk C.P C.ty) (E : Ents X w) {fl : Bool} {slot : Nat} (hs : ¬ X.ok slot) {b : Builtin} {ts : Array TypeId} {ty : TypeId} {cs : Array Bool} {args : List V} {vs : List Value} {r : Res}
    (h : builtinE fl C.P C.ty X.H slot b ts.toList args = some r) (hr : r.req = true) (ha : RepL X w args (.vals vs)) : ∃ v w', (builtin b ts ty cs vs.toArray).run C.P w = .ok (.value v) w' ∧ OpPost X w slot r v w' := by
  unfold builtinE at h
  split at h
  · rename_i x
    split at h
    case h_2 => cases h
    rename_i t ts' hts
    cases hi : C.ty t with
    | none => rw [hi] at h; cases h
    | some i =>
      rw [hi] at h
      dsimp only at h
      cases hl : lenE X.H i.desc x with
      | none => rw [hl] at h; cases h
      | some v =>
        rw [hl] at h
        have := pure_up h
        subst this
        unfold RepL at ha
        obtain ⟨va, vs', rfl, hx, hn⟩ := ha
        unfold RepL at hn
        subst hn
        obtain ⟨u, h1, h2⟩ := len_sound (P := C.P) (ty := ty) (ts := ts') hT hi hl hx
        have e : ts = (t :: ts').toArray := by rw [← hts]
        refine ⟨u, w, ?_, .pure E rfl rfl h2⟩
        unfold builtin
        rw [e]
        simp only [Sem.run_bind, h1, Result.andThen_ok, Sem.run_pure]
  · rename_i s x
    split at h
    case h_2 => cases h
    rename_i t u hts
    cases hi : C.ty t with
    | none => rw [hi] at h; cases h
    | some i =>
      rw [hi] at h
      dsimp only at h
      cases hd : i.desc <;> rw [hd] at h <;> first | (cases h; done) | skip
      rename_i e
      dsimp only at h
      cases hj : C.ty e with
      | none => rw [hj] at h; cases h
      | some j =>
        rw [hj] at h
        dsimp only at h
        split at h
        case isFalse => cases h
        rename_i hg
        simp only [Bool.and_eq_true, decide_eq_true_eq] at hg
        unfold RepL at ha
        obtain ⟨va, vs', rfl, hx, hn⟩ := ha
        unfold RepL at hn
        obtain ⟨vb, vs'', rfl, hy, hn⟩ := hn
        unfold RepL at hn
        subst hn
        obtain ⟨v, w', h1, h2⟩ := append_sound (ty := ty) hT E hs hi hd hj hg.1 hg.2 h hr hx hy
        have e : ts = #[t, u] := by apply Array.toList_inj.1; rw [hts]
        refine ⟨v, w', ?_, h2⟩
        unfold builtin
        rw [e]
        simp only [Sem.run_bind, h1, Result.andThen_ok, Sem.run_pure]
  · rename_i d s
    split at h
    case h_2 => cases h
    rename_i t ts' hts
    cases hi : C.ty t with
    | none => rw [hi] at h; cases h
    | some i =>
      rw [hi] at h
      dsimp only at h
      cases hd : i.desc <;> rw [hd] at h <;> first | (cases h; done) | skip
      rename_i e
      dsimp only at h
      cases hj : C.ty e with
      | none => rw [hj] at h; cases h
      | some j =>
        rw [hj] at h
        dsimp only at h
        unfold RepL at ha
        obtain ⟨va, vs', rfl, hx, hn⟩ := ha
        unfold RepL at hn
        obtain ⟨vb, vs'', rfl, hy, hn⟩ := hn
        unfold RepL at hn
        subst hn
        obtain ⟨v, w', h1, h2⟩ := copy_sound (slot := slot) (u := 0) (ty := ty) hT E hi hd hj h hr hx hy
        have e : ts = (t :: ts').toArray := by rw [← hts]
        refine ⟨v, w', ?_, h2⟩
        unfold builtin
        rw [e]
        have h1' : (Builtin.copy_ (t :: ts').toArray ty #[va, vb]).run C.P w = .ok v w' := h1
        simp only [Sem.run_bind, h1', Result.andThen_ok, Sem.run_pure]
  · rename_i x l
    cases hf : foldE min2E x l with
    | none => rw [hf] at h; cases h
    | some z =>
      rw [hf] at h
      have := pure_up h
      subst this
      unfold RepL at ha
      obtain ⟨va, vs', rfl, hx, hn⟩ := ha
      obtain ⟨u, h1, h2⟩ := fold2 (P := C.P) (g := Builtin.min2) (fun x y z va vb h hx hy => by
        cases x <;> first | (cases h; done) | skip
        cases y <;> first | (cases h; done) | skip
        simp only [min2E, Option.some.injEq] at h
        subst h
        have e1 := rep_int hx
        have e2 := rep_int hy
        subst e1 e2
        exact ⟨_, rfl, rep_int_mk⟩) l x z va vs' hf hx hn
      refine ⟨u, w, ?_, .pure E rfl rfl h2⟩
      unfold builtin
      have h1' : (Builtin.min_ ts ty (va :: vs').toArray).run C.P w = .ok u w := h1
      simp only [Sem.run_bind, h1', Result.andThen_ok, Sem.run_pure]
  · rename_i x l
    cases hf : foldE max2E x l with
    | none => rw [hf] at h; cases h
    | some z =>
      rw [hf] at h
      have := pure_up h
      subst this
      unfold RepL at ha
      obtain ⟨va, vs', rfl, hx, hn⟩ := ha
      obtain ⟨u, h1, h2⟩ := fold2 (P := C.P) (g := Builtin.max2) (fun x y z va vb h hx hy => by
        cases x <;> first | (cases h; done) | skip
        cases y <;> first | (cases h; done) | skip
        simp only [max2E, Option.some.injEq] at h
        subst h
        have e1 := rep_int hx
        have e2 := rep_int hy
        subst e1 e2
        exact ⟨_, rfl, rep_int_mk⟩) l x z va vs' hf hx hn
      refine ⟨u, w, ?_, .pure E rfl rfl h2⟩
      unfold builtin
      have h1' : (Builtin.max_ ts ty (va :: vs').toArray).run C.P w = .ok u w := h1
      simp only [Sem.run_bind, h1', Result.andThen_ok, Sem.run_pure]
  · rename_i x
    unfold RepL at ha
    obtain ⟨va, vs', rfl, hx, hn⟩ := ha
    unfold RepL at hn
    subst hn
    obtain ⟨v, h1, h2⟩ := data_sound (P := C.P) (slot := slot) (ts := ts) (ty := ty) E h hr hx
    refine ⟨v, w, ?_, h2⟩
    unfold builtin
    simp only [Sem.run_bind, h1, Result.andThen_ok, Sem.run_pure]
  · rename_i x y
    unfold RepL at ha
    obtain ⟨va, vs', rfl, hx, hn⟩ := ha
    unfold RepL at hn
    obtain ⟨vb, vs'', rfl, hy, hn⟩ := hn
    unfold RepL at hn
    subst hn
    obtain ⟨v, w', h1, h2⟩ := str_sound (slot := slot) (ty := ty) hT E h hr hx hy
    refine ⟨v, w', ?_, h2⟩
    unfold builtin
    simp only [Sem.run_bind, h1, Result.andThen_ok, Sem.run_pure]
  · cases h

/-- What an operation comes to in the machine. -/
def Done (P : Program) (a : Act) (o : Oper) (w : World) (v : Value) (w' : World) : Prop := (execOp a.eval o).run P w = .ok (.value v) w' ∨ ((execOp a.eval o).run P w = .ok .skip w' ∧ v = undef)
theorem op_sound (hT : TabOk C.P C.ty) (hG : Globs C X w) (E : Ents X w) {fl : Bool} {slot : Nat} (hs : ¬ X.ok slot) {tm : List V} {a : Act} (ha : RepL X w tm (.vals a.tmps.toList)) {o : Oper} {r : Res} (h : opE fl C tm X.H slot o.op = some r) (hr : r.req = true) :
    ∃ v w', Done C.P a o w v w' ∧ OpPost X w slot r v w' := by
  obtain ⟨dst, op, type, pos, after, guard⟩ := o
  have hv : ∀ (s : Sem Value) v w', s.run C.P w = .ok v w' → ((do pure (.value (← s)) : Sem Next)).run C.P w = .ok (.value v) w' := fun s v w' hs => by
    simp only [Sem.run_bind, hs, Result.andThen_ok, Sem.run_pure]
  have R := opd_rep hG ha
  cases op <;> (simp only [opE] at h) <;> first | (cases h; done) | skip
  case move x =>
    simp only [Option.some.injEq] at h; subst h
    exact ⟨_, w, .inl rfl, .pure E rfl rfl (R x)⟩
  case assign x =>
    simp only [Option.some.injEq] at h; subst h
    exact ⟨_, w, .inl rfl, .pure E rfl rfl (R x)⟩
  case alloc e =>
    cases hi : C.ty e with
    | none => rw [hi] at h; cases h
    | some i =>
      rw [hi] at h
      simp only [Option.some.injEq] at h; subst h
      obtain ⟨v, w', h1, h2⟩ := alloc_sound hT E hs hi
      exact ⟨v, w', .inl (hv _ _ _ h1), .new rfl rfl h2⟩
  case box e x =>
    split at h
    case isFalse => cases h
    rename_i hc
    simp only [Option.some.injEq] at h; subst h
    obtain ⟨v, w', h1, h2⟩ := box_sound (P := C.P) (t := e) E hs hc (R x)
    exact ⟨v, w', .inl (hv _ _ _ h1), .new rfl rfl h2⟩
  case build t ps =>
    cases hb : buildE C.ty t (ps.toList.map fun (i, x) => (i, opd C tm x)) with
    | none => rw [hb] at h; cases h
    | some v =>
      rw [hb] at h
      have := pure_up h
      subst this
      obtain ⟨u, h1, h2⟩ := build_sound (qs := ps.map fun (i, x) => (i, a.eval x)) hT hb (by
        have := parts_rep hG ha ps.toList
        rw [Array.toList_map]
        exact this)
      exact ⟨u, w, .inl (hv _ _ _ h1), .pure E rfl rfl h2⟩
  case buildSlice t len ps =>
    cases hi : C.ty t with
    | none => rw [hi] at h; cases h
    | some i =>
      rw [hi] at h
      dsimp only at h
      cases hd : i.desc <;> rw [hd] at h <;> first | (cases h; done) | skip
      rename_i e
      dsimp only at h
      cases hj : C.ty e with
      | none => rw [hj] at h; cases h
      | some j =>
        rw [hj] at h
        dsimp only at h
        cases he : elemsE j.size (List.replicate len (zeroEl j)) (ps.toList.map fun (i, x) => (i, opd C tm x)) with
        | none => rw [he] at h; cases h
        | some xs =>
          rw [he] at h
          dsimp only at h
          split at h
          case isFalse => cases h
          rename_i hg
          simp only [Bool.and_eq_true, decide_eq_true_eq] at hg
          obtain ⟨v, w', h1, h2, h3⟩ := buildSlice_sound (qs := ps.map fun (i, x) => (i, a.eval x)) hT E hs hi hd hj he hg.1 (by
            have := parts_rep hG ha ps.toList
            rw [Array.toList_map]
            exact this)
          split at h
          · rename_i hp
            simp only [Option.some.injEq] at h; subst h
            exact ⟨v, w', .inl (hv _ _ _ h1), .new rfl rfl (h2 hp)⟩
          · split at h
            case isFalse => cases h
            rename_i h11
            simp only [Option.some.injEq] at h; subst h
            exact ⟨v, w', .inl (hv _ _ _ h1), .new rfl rfl (h3 h11)⟩
  case load t x =>
    obtain ⟨h1, h2, v, h3, h4⟩ := load_sound hT E h hr (R x)
    exact ⟨v, w, .inl (hv _ _ _ h3), .pure E h1 h2 h4⟩
  case store t x y =>
    obtain ⟨h1, h2, id, e, w', h3, h4, hal, h5, h6, h7⟩ := store_sound hT E h hr (R x) (R y)
    refine ⟨undef, w', .inr ⟨?_, rfl⟩, .lift h3 h6 h7 (fun _ h => .inl h) (by rw [h1]; exact rep_undef) (fun H' hH id' => ?_)⟩
    · show ((do Instr.storeAt t (a.eval x) (a.eval y); pure .skip : Sem Next)).run C.P w = _
      simp only [Sem.run_bind, h5, Result.andThen_ok, Sem.run_pure]
    · unfold Res.HeapOk at hH
      rw [h3, h2, h4] at hH
      rw [hH id', dlook_one]
      exact (look_set _ _ _ (lt_of_alive hal) _).symm
  case nilCheck x =>
    have hx := R x
    cases hx' : opd C tm x <;> rw [hx'] at h hx <;> first | (cases h; done) | skip
    case ref id off =>
      simp only [Option.some.injEq] at h; subst h
      have hx2 := hx
      unfold Rep holds at hx2
      obtain ⟨_, ⟨_, hv⟩, _⟩ := hx2
      refine ⟨_, w, .inl ?_, .pure E rfl rfl hx⟩
      simp only [execOp, hv]
      rfl
    case cref l =>
      simp only [Option.some.injEq] at h; subst h
      have hx2 := hx
      unfold Rep at hx2
      obtain ⟨b, o, hv, _⟩ := hx2
      refine ⟨_, w, .inl ?_, .pure E rfl rfl hx⟩
      simp only [execOp, hv]
      rfl
    case fn f l =>
      simp only [Option.some.injEq] at h; subst h
      have hx2 := hx
      unfold Rep holds at hx2
      obtain ⟨cs, hv, _⟩ := hx2
      refine ⟨_, w, .inl ?_, .pure E rfl rfl hx⟩
      simp only [execOp, hv]
      rfl
  case binOp op t x y yt =>
    split at h
    case isFalse => cases h
    rename_i hty
    cases hb : binE C.P C.ty X.H op t (opd C tm x) (opd C tm y) with
    | none => rw [hb] at h; cases h
    | some p =>
      obtain ⟨v, q⟩ := p
      rw [hb] at h
      simp only [Option.some.injEq] at h; subst h
      obtain ⟨u, h1, h2⟩ := bin_sound (x := x) (y := y) hT hty hb hr (R x) (R y)
      exact ⟨u, w, .inl (hv _ _ _ h1), .pure E rfl rfl h2⟩
  case unOp op t x =>
    cases hb : unE op (opd C tm x) with
    | none => rw [hb] at h; cases h
    | some v =>
      rw [hb] at h
      have := pure_up h
      subst this
      obtain ⟨u, h1, h2⟩ := un_sound (P := C.P) hb (R x)
      exact ⟨u, w, .inl (hv _ _ _ h1), .pure E rfl rfl h2⟩
  case convert s d x =>
    split at h
    · rename_i id off hρ
      have hx := R x
      rw [hρ] at hx
      exact ⟨_, w, .inl (hv _ _ _ (uconv_sound (slot := slot) E h hx).1), (uconv_sound E h hx).2⟩
    · obtain ⟨v, w', h1, h2⟩ := conv_sound hT E hs h hr (R x)
      exact ⟨v, w', .inl (hv _ _ _ h1), h2⟩
  case sliceToArrayPointer t x =>
    have hx := R x
    cases hi : C.ty t with
    | none => rw [hi] at h; cases h
    | some i =>
      rw [hi] at h
      dsimp only at h
      cases hd : i.desc <;> rw [hd] at h <;> first | (cases hx' : opd C tm x <;> rw [hx'] at h <;> cases h; done) | skip
      rename_i n e
      cases hx' : opd C tm x <;> rw [hx'] at h hx <;> first | (cases h; done) | skip
      case sl sz l c nl =>
        dsimp only at h
        cases hj : C.ty e with
        | none => rw [hj] at h; cases h
        | some j =>
          rw [hj] at h
          dsimp only at h
          split at h
          case isFalse => cases h
          rename_i hg
          simp only [Bool.and_eq_true, decide_eq_true_eq] at hg
          simp only [Option.some.injEq] at h; subst h
          simp only [Bool.and_eq_true, decide_eq_true_eq, Bool.not_eq_true'] at hr
          obtain ⟨⟨g1, rfl⟩, g2⟩ := hr
          have hx2 := hx
          unfold Rep holds at hx2
          obtain ⟨A, cap, hva, k1, k2, k3, k4⟩ := hx2
          rcases k4 with k4 | ⟨ks, kst, kl⟩
          · rw [k4] at g1; simp at g1; omega
          obtain ⟨b, o, s⟩ := A
          simp only at ks
          subst ks
          refine ⟨.pointer (some ⟨b, o, none⟩), w, .inl (hv _ _ _ ?_), .pure E rfl rfl ?_⟩
          · have hn : ¬ l.length < n := by omega
            rw [hva]
            unfold Instr.arrayAt
            rw [Sem.run_bind, und_array (hT.facts hi) hd]
            simp only [Result.andThen_ok]
            rw [if_neg hn]
            rfl
          · unfold Rep
            exact ⟨b, o, rfl, kst, fun y hy => cells_of_leaf (flat_leaf k3 y hy), (repL_flat (fun y hy => plain_single (k3 y hy))).1 kl⟩
      case own id lo len c =>
        dsimp only at h
        cases hE : look X.H id with
        | dead => rw [hE] at h; cases h
        | arr a b c => rw [hE] at h; cases h
        | box l bt =>
          rw [hE] at h
          simp only [Option.some.injEq] at h; subst h
          simp only [Bool.and_eq_true, decide_eq_true_eq] at hr
          have hal : X.alive id := by unfold Cx.alive; rw [hE]; rfl
          obtain ⟨A, cap, hva, hA, c1, c2, c3⟩ := rep_own_val hal hx
          refine ⟨.pointer (some A), w, .inl (hv _ _ _ ?_), .pure E rfl rfl ?_⟩
          · have hn : ¬ len < n := by omega
            rw [hva]
            unfold Instr.arrayAt
            rw [Sem.run_bind, und_array (hT.facts hi) hd]
            simp only [Result.andThen_ok]
            rw [if_neg hn]
            rfl
          · rcases hA with hA | rfl
            · omega
            · rw [hE]
              simp only [Ent.sz, Nat.mul_one]
              exact rep_ref_mk (E.ok id hal)
  case makeFunc fn first caps =>
    cases fn <;> first | (cases h; done) | skip
    rename_i f
    dsimp only at h
    split at h
    case h_2 => cases h
    rename_i hf
    simp only [Option.some.injEq] at h; subst h
    have hf' : first = #[] := by apply Array.toList_inj.1; rw [hf]
    refine ⟨.func (.func f) (first.map a.eval) (caps.map a.eval), w, .inl rfl, .pure E rfl rfl ?_⟩
    rw [hf']
    unfold Rep holds
    refine ⟨_, by rw [Array.map_empty], ?_⟩
    rw [Array.toList_map]
    exact args_rep hG ha caps.toList
  case makeSlice t l c =>
    obtain ⟨h1, e, v, w', h2, h3, h4⟩ := makeSlice_sound hT E hs h hr (R l) (R c)
    exact ⟨v, w', .inl (hv _ _ _ h3), .new h1 h2 h4⟩
  case slice t x lo hi mx =>
    obtain ⟨h1, h2, v, h3, h4⟩ := slice_sound hT E h hr (R x) (optv_rep hG ha lo) (optv_rep hG ha hi) (optv_rep hG ha mx)
    exact ⟨v, w, .inl (hv _ _ _ h3), .pure E h1 h2 h4⟩
  case fieldAddr t x f =>
    obtain ⟨h1, h2, v, h3, h4⟩ := fieldAddr_sound hT h (R x)
    exact ⟨v, w, .inl (hv _ _ _ h3), .pure E h1 h2 h4⟩
  case field t x f =>
    obtain ⟨h1, h2, v, h3, h4⟩ := field_sound hT h (R x)
    exact ⟨v, w, .inl (hv _ _ _ h3), .pure E h1 h2 h4⟩
  case indexAddr t x i =>
    obtain ⟨h1, h2, v, h3, h4⟩ := indexAddr_sound hT h hr (R x) (R i)
    exact ⟨v, w, .inl (hv _ _ _ h3), .pure E h1 h2 h4⟩
  case index t x i =>
    obtain ⟨h1, h2, v, h3, h4⟩ := index_sound hT h hr (R x) (R i)
    exact ⟨v, w, .inl (hv _ _ _ h3), .pure E h1 h2 h4⟩
  case extract x i =>
    have hx := R x
    cases hx' : opd C tm x <;> rw [hx'] at h hx <;> first | (cases h; done) | skip
    rename_i l
    dsimp only at h
    cases hl : l[i]? with
    | none => rw [hl] at h; cases h
    | some v =>
      rw [hl] at h
      simp only [Option.some.injEq] at h; subst h
      obtain ⟨u, h1, h2⟩ := extract_sound (P := C.P) hl hx
      exact ⟨u, w, .inl (hv _ _ _ h1), .pure E rfl rfl h2⟩
  case call c =>
    cases hc : c.callee <;> rw [hc] at h <;> first | (cases h; done) | skip
    rename_i b
    dsimp only at h
    obtain ⟨v, w', h1, h2⟩ := builtin_sound (ty := type) (cs := c.args.map fun | .const _ => true | _ => false) hT E hs h hr (args_rep hG ha c.args.toList)
    refine ⟨v, w', .inl ?_, h2⟩
    have e : (c.args.toList.map a.eval).toArray = c.args.map a.eval := by apply Array.toList_inj.1; simp
    rw [e] at h1
    simp only [execOp, resolve, hc, invoke, Sem.run_bind, Sem.run_pure, Result.andThen_ok]
    exact h1
end

end Go.Vi
