/- An operation that succeeds in a heap succeeds alike in a larger one. -/
import Derived.Test.YtcpeljfjgbjnjaaDoorVSnx
namespace Go.Vi
open Go.RowKit

def LeH (H H' : List Ent) : Prop := ∀ id, (look H id).alive = true → look H' id = look H id
section
variable {H H' : List Ent} {T : Ty}
theorem LeH.at (h : LeH H H') {id : Nat} (hd : look H id ≠ .dead) : look H' id = look H id := h id (alive_of hd)
theorem load_mono (hH : LeH H H') {t : TypeId} {a : V} {r : Res} (h : loadE T H t a = some r) : loadE T H' t a = some r := by
  unfold loadE at h ⊢
  cases hi : T t with
  | none => rw [hi] at h; cases h
  | some i =>
    rw [hi] at h
    cases a <;> first | (cases h; done) | skip
    case ref id off =>
      dsimp only at h ⊢
      cases hE : look H id with
      | dead => rw [hE] at h; cases h
      | box l bt => rw [hH.at (by rw [hE]; simp)]; exact h
      | arr a b c => rw [hH.at (by rw [hE]; simp)]; exact h
    case cref l => exact h
theorem store_mono (hH : LeH H H') {t : TypeId} {a v : V} {r : Res} (h : storeE T H t a v = some r) : storeE T H' t a v = some r := by
  unfold storeE at h ⊢
  cases hi : T t with
  | none => rw [hi] at h; cases h
  | some i =>
    rw [hi] at h
    cases a <;> first | (cases h; done) | skip
    rename_i id off
    dsimp only at h ⊢
    split at h
    case isFalse => cases h
    rename_i hs
    rw [if_pos hs]
    cases hE : look H id with
    | dead => rw [hE] at h; cases h
    | box l bt => rw [hH.at (by rw [hE]; simp)]; exact h
    | arr a b c => rw [hH.at (by rw [hE]; simp)]; exact h
theorem slice_mono (hH : LeH H H') {t : TypeId} {x : V} {lo hi mx : Option V} {r : Res} (h : sliceE T H t x lo hi mx = some r) : sliceE T H' t x lo hi mx = some r := by
  unfold sliceE at h ⊢
  cases hi : T t with
  | none => rw [hi] at h; cases h
  | some i =>
    rw [hi] at h
    dsimp only at h ⊢
    split at h
    · exact h
    · exact h
    · rename_i e id a k c hd
      cases hj : T e with
      | none => rw [hj] at h; cases h
      | some j =>
        rw [hj] at h
        dsimp only at h ⊢
        cases hE : look H id with
        | dead => rw [hE] at h; simp [Ent.alive] at h
        | box l bt => rw [hH.at (by rw [hE]; simp)]; exact h
        | arr a b c => rw [hH.at (by rw [hE]; simp)]; exact h
    · rename_i n e id hd
      cases hE : look H id with
      | dead => rw [hE] at h; cases h
      | box l bt => rw [hH.at (by rw [hE]; simp)]; exact h
      | arr a b c => rw [hH.at (by rw [hE]; simp)]; exact h
    · cases h
theorem indexAddr_mono (hH : LeH H H') {t : TypeId} {x ix : V} {r : Res} (h : indexAddrE T H t x ix = some r) : indexAddrE T H' t x ix = some r := by
  unfold indexAddrE at h ⊢
  cases hi : T t with
  | none => rw [hi] at h; cases h
  | some i =>
    cases hx : idx ix with
    | none => rw [hi, hx] at h; cases h
    | some p =>
      rw [hi, hx] at h
      dsimp only at h ⊢
      split at h
      · rename_i n e id off hd
        cases hj : T e with
        | none => rw [hj] at h; cases h
        | some j =>
          rw [hj] at h
          dsimp only at h ⊢
          cases hE : look H id with
          | dead => rw [hE] at h; simp [Ent.alive] at h
          | box l bt => rw [hH.at (by rw [hE]; simp)]; exact h
          | arr a b c => rw [hH.at (by rw [hE]; simp)]; exact h
      · rename_i n e l hd
        exact h
      · rename_i e sz xs c n hd
        exact h
      · rename_i e id lo len c hd
        cases hj : T e with
        | none => rw [hj] at h; cases h
        | some j =>
          rw [hj] at h
          dsimp only at h ⊢
          cases hE : look H id with
          | dead => rw [hE] at h; simp [Ent.alive] at h
          | box l bt => rw [hH.at (by rw [hE]; simp)]; exact h
          | arr a b c => rw [hH.at (by rw [hE]; simp)]; exact h
      · cases h
theorem fieldAddr_mono (hH : LeH H H') {t : TypeId} {x : V} {f : Nat} {r : Res} (h : fieldAddrE T H t x f = some r) : fieldAddrE T H' t x f = some r := by
  unfold fieldAddrE at h ⊢
  cases hf : fieldAt? T t f with
  | none => rw [hf] at h; cases h
  | some p =>
    rw [hf] at h
    dsimp only at h ⊢
    split at h
    · cases h
    · rename_i hj
      rw [if_neg hj]
      cases x <;> first | (cases h; done) | skip
      case ref id off =>
        dsimp only at h ⊢
        cases hE : look H id with
        | dead => rw [hE] at h; simp [Ent.alive] at h
        | box l bt => rw [hH.at (by rw [hE]; simp)]; exact h
        | arr a b c => rw [hH.at (by rw [hE]; simp)]; exact h
      case cref l => exact h
theorem ownElems_mono (hH : LeH H H') {id lo len : Nat} {p : Nat × List V × Bool} (h : ownElems H id lo len = some p) : ownElems H' id lo len = some p := by
  unfold ownElems at h ⊢
  cases hE : look H id with
  | dead => rw [hE] at h; cases h
  | box l bt => rw [hH.at (by rw [hE]; simp)]; exact h
  | arr a b c => rw [hH.at (by rw [hE]; simp)]; exact h
theorem src_mono (hH : LeH H H') {x : V} {p : Nat × List V × Bool × Bool} (h : srcE H x = some p) : srcE H' x = some p := by
  unfold srcE at h ⊢
  cases x <;> first | (cases h; done) | skip
  case str s => exact h
  case sl a b c d => exact h
  case own id lo len c =>
    dsimp only at h ⊢
    cases ho : ownElems H id lo len with
    | none => rw [ho] at h; cases h
    | some q => rw [ho] at h; rw [ownElems_mono hH ho]; exact h
theorem append_mono (hH : LeH H H') {fl : Bool} {slot size : Nat} {e : TypeId} {s x : V} {r : Res} (h : appendE fl H slot e size s x = some r) : appendE fl H' slot e size s x = some r := by
  unfold appendE at h ⊢
  cases hs : srcE H x with
  | none => rw [hs] at h; cases h
  | some p =>
    rw [hs] at h
    rw [src_mono hH hs]
    dsimp only at h ⊢
    split at h
    · cases h
    · rename_i hz
      rw [if_neg hz]
      split at h
      · exact h
      · rename_i id len clip
        cases hE : look H id with
        | dead => rw [hE] at h; cases h
        | box l bt => rw [hH.at (by rw [hE]; simp)]; exact h
        | arr a b c => rw [hH.at (by rw [hE]; simp)]; exact h
      · cases h
theorem copy_mono (hH : LeH H H') {size : Nat} {d s : V} {r : Res} (h : copyE H size d s = some r) : copyE H' size d s = some r := by
  unfold copyE at h ⊢
  cases d <;> first | (cases h; done) | skip
  rename_i id lo len c
  cases hs : srcE H s with
  | none => rw [hs] at h; cases h
  | some p =>
    rw [hs] at h
    rw [src_mono hH hs]
    dsimp only at h ⊢
    cases hE : look H id with
    | dead => rw [hE] at h; cases h
    | box l bt => rw [hH.at (by rw [hE]; simp)]; exact h
    | arr a b c => rw [hH.at (by rw [hE]; simp)]; exact h
theorem len_mono (hH : LeH H H') {d : TD} {x v : V} (h : lenE H d x = some v) : lenE H' d x = some v := by
  unfold lenE at h ⊢
  split at h
  · exact h
  · exact h
  · rename_i id _ n _
    cases hE : look H id with
    | dead => rw [hE] at h; simp [Ent.alive] at h
    | box l bt => rw [hH.at (by rw [hE]; simp)]; exact h
    | arr a b c => rw [hH.at (by rw [hE]; simp)]; exact h
  · cases h
theorem conv_mono (hH : LeH H H') {slot : Nat} {s d : TypeId} {a : V} {r : Res} (h : convE T H slot s d a = some r) : convE T H' slot s d a = some r := by
  unfold convE at h ⊢
  cases hs : T s with
  | none => rw [hs] at h; cases h
  | some i =>
    cases hd : T d with
    | none => rw [hs, hd] at h; cases h
    | some j =>
      rw [hs, hd] at h
      dsimp only at h ⊢
      split at h
      · exact h
      · exact h
      · exact h
      · rename_i id lo len c hdd
        cases hi : i.desc <;> rw [hi] at h <;> first | (cases h; done) | skip
        rename_i e
        dsimp only at h ⊢
        cases he : T e with
        | none => rw [he] at h; cases h
        | some k =>
          rw [he] at h
          dsimp only at h ⊢
          cases ho : ownElems H id lo len with
          | none => rw [ho] at h; cases hk : k.desc <;> rw [hk] at h <;> first | (cases h; done) | (rename_i kk; cases kk <;> cases h)
          | some q => rw [ho] at h; rw [ownElems_mono hH ho]; exact h
      · exact h
      · cases h
theorem bin_mono {P : Program} (hH : LeH H H') {op : BinOp} {t : TypeId} {a b : V} {p : V × Bool} (h : binE P T H op t a b = some p) : binE P T H' op t a b = some p := by
  have key : ∀ (id : Nat) {α : Type} (c : Bool) (x : α), (if ((look H id).alive && c) = true then some x else none) = (none : Option α) ∨ (look H' id).alive = (look H id).alive := by
    intro id α c x
    cases hE : look H id with
    | dead => left; simp [Ent.alive]
    | box l bt => right; rw [hH.at (by rw [hE]; simp), hE]
    | arr a b c => right; rw [hH.at (by rw [hE]; simp), hE]
  have key0 : ∀ (id : Nat) {α : Type} (x : α), (if (look H id).alive = true then some x else none) = (none : Option α) ∨ (look H' id).alive = (look H id).alive := by
    intro id α x
    have := key id true x
    simpa using this
  unfold binE at h ⊢
  split at h
  · exact h
  · exact h
  · rename_i id _ _ _ _ _
    rcases key0 id (V.bool false, true) with e | e
    · rw [e] at h; cases h
    · rw [e]; exact h
  · rename_i id _ _ _ _ _
    rcases key0 id (V.bool true, true) with e | e
    · rw [e] at h; cases h
    · rw [e]; exact h
  · rename_i id _
    rcases key0 id (V.bool false, true) with e | e
    · rw [e] at h; cases h
    · rw [e]; exact h
  · rename_i id _
    rcases key0 id (V.bool true, true) with e | e
    · rw [e] at h; cases h
    · rw [e]; exact h
  · rename_i id off id' off'
    simp only [Bool.and_assoc] at h ⊢
    rcases key id (id == id' && (off == off' && (P.info? (P.pointee t)).isSome)) (V.bool true, true) with e | e
    · rw [e] at h; cases h
    · rw [e]; exact h
  · rename_i id off id' off'
    simp only [Bool.and_assoc] at h ⊢
    rcases key id (id == id' && (off == off' && (P.info? (P.pointee t)).isSome)) (V.bool false, true) with e | e
    · rw [e] at h; cases h
    · rw [e]; exact h
  all_goals first | exact h | cases h
mutual
theorem view_mono (hH : LeH H H') : ∀ (x : V) (r : Vw), view H x = some r → view H' x = some r ∧ ∀ id, id ∈ ids x → (look H id).alive = true
  | .own id lo len clip, r, h => by
    simp only [view] at h ⊢
    cases ho : ownElems H id lo len with
    | none => rw [ho] at h; cases h
    | some p =>
      rw [ho] at h
      rw [ownElems_mono hH ho]
      refine ⟨h, fun i hi => ?_⟩
      simp only [ids, List.mem_singleton] at hi
      subst hi
      apply alive_of
      intro hE
      unfold ownElems at ho
      rw [hE] at ho
      cases ho
  | .agg l, r, h => by
    simp only [view] at h ⊢
    cases hv : views H l with
    | none => rw [hv] at h; cases h
    | some p =>
      rw [hv] at h
      obtain ⟨h1, h2⟩ := views_mono hH l p hv
      rw [h1]
      exact ⟨h, fun i hi => h2 i (by simpa [ids] using hi)⟩
  | .sl _ _ _ _, r, h => ⟨h, fun i hi => by simp [ids] at hi⟩
  | .int _ _, r, h => ⟨h, fun i hi => by simp [ids] at hi⟩
  | .bool _, r, h => ⟨h, fun i hi => by simp [ids] at hi⟩
  | .str _, r, h => ⟨h, fun i hi => by simp [ids] at hi⟩
  | .nilptr, r, h => ⟨h, fun i hi => by simp [ids] at hi⟩
  | .nilfn, r, h => ⟨h, fun i hi => by simp [ids] at hi⟩
  | .fn _ [], r, h => ⟨h, fun i hi => by simp [ids] at hi⟩
  | .fn _ (_ :: _), r, h => by simp [view] at h
  | .tup _, r, h => by simp [view] at h
  | .ref _ _, r, h => by simp [view] at h
  | .cref _, r, h => by simp [view] at h
  | .undef, r, h => by simp [view] at h
theorem views_mono (hH : LeH H H') : ∀ (l : List V) (p : List V × Bool), views H l = some p → views H' l = some p ∧ ∀ id, id ∈ idsL l → (look H id).alive = true
  | [], p, h => ⟨h, fun i hi => by simp [idsL] at hi⟩
  | x :: xs, p, h => by
    simp only [views] at h ⊢
    cases h1 : view H x with
    | none => rw [h1] at h; cases h
    | some r =>
      cases h2 : views H xs with
      | none => rw [h1, h2] at h; cases h
      | some q =>
        rw [h1, h2] at h
        obtain ⟨k1, k2⟩ := view_mono hH x r h1
        obtain ⟨k3, k4⟩ := views_mono hH xs q h2
        rw [k1, k3]
        refine ⟨h, fun i hi => ?_⟩
        simp only [idsL, List.mem_append] at hi
        rcases hi with hi | hi
        · exact k2 i hi
        · exact k4 i hi
end
end

theorem data_mono {H H' : List Ent} (hH : LeH H H') {x : V} {r : Res} (h : dataE H x = some r) : dataE H' x = some r := by
  unfold dataE at h ⊢
  split at h
  · exact h
  · rename_i id len _
    split at h
    case isFalse => cases h
    rename_i ha
    have e : look H' id = look H id := hH.at (by intro h0; rw [h0] at ha; cases ha)
    simp only [e, ha, if_true]
    exact h
  · cases h
theorem str_mono {H H' : List Ent} (hH : LeH H H') {P : Program} {T : Ty} {ts : List TypeId} {p n : V} {r : Res} (h : strE P T H ts p n = some r) : strE P T H' ts p n = some r := by
  unfold strE at h ⊢
  split at h
  · exact h
  · rename_i id n
    split at h
    · rename_i pt it xs t he
      have e : look H' id = look H id := hH.at (by rw [he]; simp)
      simp only [e, he]
      exact h
    · cases h
  · cases h
theorem builtin_mono {P : Program} {T : Ty} {H H' : List Ent} (hH : LeH H H') {fl : Bool} {slot : Nat} {b : Builtin} {ts : List TypeId} {args : List V} {r : Res} (h : builtinE fl P T H slot b ts args = some r) : builtinE fl P T H' slot b ts args = some r := by
  unfold builtinE at h ⊢
  split at h
  · rename_i x
    split at h
    case h_2 => cases h
    rename_i t ts'
    cases hi : T t with
    | none => rw [hi] at h; cases h
    | some i =>
      rw [hi] at h
      dsimp only at h ⊢
      cases hl : lenE H i.desc x with
      | none => rw [hl] at h; cases h
      | some v => rw [hl] at h; rw [len_mono hH hl]; exact h
  · rename_i s x
    split at h
    case h_2 => cases h
    rename_i t u
    cases hi : T t with
    | none => rw [hi] at h; cases h
    | some i =>
      rw [hi] at h
      dsimp only at h ⊢
      cases hd : i.desc <;> rw [hd] at h <;> first | (cases h; done) | skip
      rename_i e
      dsimp only at h ⊢
      cases hj : T e with
      | none => rw [hj] at h; cases h
      | some j =>
        rw [hj] at h
        dsimp only at h ⊢
        split at h
        · rename_i hg
          rw [if_pos hg]
          exact append_mono hH h
        · cases h
  · rename_i d s
    split at h
    case h_2 => cases h
    rename_i t ts'
    cases hi : T t with
    | none => rw [hi] at h; cases h
    | some i =>
      rw [hi] at h
      dsimp only at h ⊢
      cases hd : i.desc <;> rw [hd] at h <;> first | (cases h; done) | skip
      rename_i e
      dsimp only at h ⊢
      cases hj : T e with
      | none => rw [hj] at h; cases h
      | some j =>
        rw [hj] at h
        exact copy_mono hH h
  · exact h
  · exact h
  · exact data_mono hH h
  · exact str_mono hH h
  · cases h
theorem uconv_mono {P : Program} {H H' : List Ent} (hH : LeH H H') {s d : TypeId} {id off : Nat} {r : Res} (h : uconvE P H s d id off = some r) : uconvE P H' s d id off = some r := by
  have e : look H' id = look H id := hH.at (by
    intro h0
    unfold uconvE at h
    rw [h0] at h
    cases h)
  unfold uconvE at h ⊢
  rw [e]
  exact h
theorem opE_mono {C : Cfg} {fl : Bool} {tm tm' : List V} {H H' : List Ent} {slot : Nat} {op : Op} {r : Res} (hx : ∀ x, x ∈ op.operands → opd C tm' x = opd C tm x) (hH : LeH H H') (h : opE fl C tm H slot op = some r) : opE fl C tm' H' slot op = some r := by
  have hps : ∀ (ps : Array (Nat × Operand)), (∀ x, x ∈ (ps.toList.map (·.2)).toArray → opd C tm' x = opd C tm x) → (ps.toList.map fun (i, x) => (i, opd C tm' x)) = (ps.toList.map fun (i, x) => (i, opd C tm x)) := fun ps hp =>
    List.map_congr_left fun p hm => by
      obtain ⟨i, x⟩ := p
      simp only [hp x (by simp only [List.mem_toArray, List.mem_map]; exact ⟨(i, x), hm, rfl⟩)]
  have hargs : ∀ (xs : Array Operand), (∀ x, x ∈ xs → opd C tm' x = opd C tm x) → (xs.toList.map (opd C tm')) = (xs.toList.map (opd C tm)) := fun xs hp =>
    List.map_congr_left fun x hm => hp x (by simpa using hm)
  cases op <;> (simp only [opE] at h ⊢) <;> first | (cases h; done) | skip
  case move x => rw [hx x (by simp [Op.operands])]; exact h
  case assign x => rw [hx x (by simp [Op.operands])]; exact h
  case alloc e => exact h
  case box e x => rw [hx x (by simp [Op.operands])]; exact h
  case build t ps => rw [hps ps (fun x hm => hx x (by simpa [Op.operands] using hm))]; exact h
  case buildSlice t n ps => rw [hps ps (fun x hm => hx x (by simpa [Op.operands] using hm))]; exact h
  case load t x => rw [hx x (by simp [Op.operands])]; exact load_mono hH h
  case store t x y => rw [hx x (by simp [Op.operands]), hx y (by simp [Op.operands])]; exact store_mono hH h
  case nilCheck x =>
    rw [hx x (by simp [Op.operands])]
    cases hx' : opd C tm x <;> rw [hx'] at h <;> first | (cases h; done) | skip
    case ref id off => exact h
    case cref l => exact h
    case fn f l => exact h
  case binOp op t x y yt =>
    rw [hx x (by simp [Op.operands]), hx y (by simp [Op.operands])]
    split at h
    · rename_i hg
      rw [if_pos hg]
      cases hb : binE C.P C.ty H op t (opd C tm x) (opd C tm y) with
      | none => rw [hb] at h; cases h
      | some p => rw [hb] at h; rw [bin_mono hH hb]; exact h
    · cases h
  case unOp op t x => rw [hx x (by simp [Op.operands])]; exact h
  case convert s d x =>
    rw [hx x (by simp [Op.operands])]
    split at h
    · rename_i id off e
      exact uconv_mono hH h
    · exact conv_mono hH h
  case sliceToArrayPointer t x =>
    rw [hx x (by simp [Op.operands])]
    cases hi : C.ty t with
    | none => rw [hi] at h; cases h
    | some i =>
      rw [hi] at h
      dsimp only at h ⊢
      split at h
      · rename_i n e sz l c nl hd hx'
        exact h
      · rename_i n e id lo len c hd hx'
        cases hE : look H id with
        | dead => rw [hE] at h; cases h
        | box l bt => rw [hH.at (by rw [hE]; simp)]; exact h
        | arr a b c => rw [hH.at (by rw [hE]; simp)]; exact h
      · cases h
  case makeFunc fn first caps =>
    cases fn <;> first | (cases h; done) | skip
    dsimp only at h ⊢
    rw [hargs caps (fun x hm => hx x (by simp [Op.operands, hm]))]
    exact h
  case makeSlice t l c => rw [hx l (by simp [Op.operands]), hx c (by simp [Op.operands])]; exact h
  case slice t x lo hi mx =>
    have ho : ∀ y : Option Operand, (∀ z, y = some z → opd C tm' z = opd C tm z) → optv C tm' y = optv C tm y := fun y hy => by
      cases y with
      | none => rfl
      | some z => simp only [optv, Option.map_some, hy z rfl]
    rw [hx x (by simp [Op.operands]), ho lo (fun z hz => hx z (by simp [Op.operands, hz])), ho hi (fun z hz => hx z (by simp [Op.operands, hz])), ho mx (fun z hz => hx z (by simp [Op.operands, hz]))]
    exact slice_mono hH h
  case fieldAddr t x f => rw [hx x (by simp [Op.operands])]; exact fieldAddr_mono hH h
  case field t x f => rw [hx x (by simp [Op.operands])]; exact h
  case indexAddr t x i => rw [hx x (by simp [Op.operands]), hx i (by simp [Op.operands])]; exact indexAddr_mono hH h
  case index t x i => rw [hx x (by simp [Op.operands]), hx i (by simp [Op.operands])]; exact h
  case extract x i => rw [hx x (by simp [Op.operands])]; exact h
  case call c =>
    cases hc : c.callee <;> rw [hc] at h <;> first | (cases h; done) | skip
    dsimp only at h ⊢
    rw [hargs c.args (fun x hm => hx x (by simp [Op.operands, Call.operands, hm]))]
    exact builtin_mono hH h
theorem kills_mono {H H' : List Ent} (hH : LeH H H') {args : List V} (h : ∀ id, id ∈ idsL args → (look H id).alive = true) : kills H' args = kills H args := by
  unfold kills
  congr 1
  apply List.filter_congr
  intro id hid
  rw [hH id (h id hid)]
theorem opV_mono {C : Cfg} {call : CallV} {tm tm' : List V} {H H' : List Ent} {slot : Nat} {op : Op} {ad ad' : Ad} {r : Res} {ps : List Prop} (hx : ∀ x, x ∈ op.operands → opd C tm' x = opd C tm x) (hH : LeH H H') (hu : r.up = none)
    (h : opV C call tm H slot op ad = some (r, ad', ps)) : opV C call tm' H' slot op ad = some (r, ad', ps) := by
  have plain : ∀ fl, (match opE fl C tm H slot op with | some r => some (r, ad, ([] : List Prop)) | none => none) = some (r, ad', ps) → (match opE fl C tm' H' slot op with | some r => some (r, ad, ([] : List Prop)) | none => none) = some (r, ad', ps) := fun fl h => by
    cases he : opE fl C tm H slot op with
    | none => rw [he] at h; cases h
    | some r' => rw [he] at h; rw [opE_mono hx hH he]; exact h
  unfold opV at h ⊢
  split at h
  · rename_i c a b
    rw [hx c (by simp [Op.operands]), hx a (by simp [Op.operands]), hx b (by simp [Op.operands])]
    exact h
  · rename_i c
    split at h
    · rename_i b hc
      split at h
      · rename_i ad2
        cases he : opE true C tm H slot (.call c) with
        | none => rw [he] at h; cases h
        | some r' => rw [he] at h; rw [opE_mono hx hH he]; exact h
      · cases he : opE false C tm H slot (.call c) with
        | none => rw [he] at h; cases h
        | some r' => rw [he] at h; rw [opE_mono hx hH he]; exact h
    · rename_i hc
      have hce : callee C tm' c = callee C tm c := by
        unfold callee
        split
        · rename_i x hcx
          rw [hx x (by simp [Op.operands, Call.operands, hcx])]
          have : (c.args.toList.map (opd C tm')) = (c.args.toList.map (opd C tm)) := List.map_congr_left fun y hm => hx y (by simp [Op.operands, Call.operands, show y ∈ c.args by simpa using hm])
          rw [this]
        · rfl
      cases hcl : callee C tm c with
      | none => rw [hcl] at h; cases h
      | some p =>
        obtain ⟨f, args⟩ := p
        rw [hcl] at h hce
        rw [hce]
        dsimp only at h ⊢
        split at h
        · cases hv : views H args with
          | none => rw [hv] at h; cases h
          | some q =>
            rw [hv] at h
            obtain ⟨k1, k2⟩ := views_mono hH args q hv
            rw [k1, kills_mono hH k2]
            exact h
        · simp only [Option.some.injEq, Prod.mk.injEq] at h
          obtain ⟨rfl, _⟩ := h
          cases hu
        · rename_i ad2
          cases hca : call f args H ad2 with
          | none => rw [hca] at h; cases h
          | some q =>
            rw [hca] at h
            simp only [Option.some.injEq, Prod.mk.injEq] at h
            obtain ⟨rfl, _⟩ := h
            cases hu
        · cases h
  · rename_i h1 h2
    have := plain false h
    cases op <;> first | exact this | exact (h1 _ _ _ rfl).elim | exact (h2 _ rfl).elim

end Go.Vi
