/- Conversions; operations on one and on two values. -/
import Derived.Test.YtcpeljfjgbjnjaaDoorVOpP
import Derived.LaidEqlPtr
import Derived.Laws.Pointers
import Derived.Laws.BytesArg
namespace Go.Vi
open Go.RowKit

section
variable {P : Program} {T : Ty} {X : Cx} {w : World}

/-! ### conversions -/
theorem bytes_ints : ∀ {l : List V}, bytesOk l = true → ∃ ns : List Int, l = ns.map (V.int .u8) ∧ bytesOfL l = strOfNums ns
  | [], _ => ⟨[], rfl, rfl⟩
  | v :: l, h => by
    simp only [bytesOk, List.all_cons, Bool.and_eq_true] at h
    obtain ⟨ns, h1, h2⟩ := bytes_ints (l := l) h.2
    cases v <;> first | (exfalso; simp [shapeOk] at h; done) | skip
    rename_i k n
    have hk := h.1
    simp only [shapeOk, beq_iff_eq] at hk
    subst hk
    refine ⟨n :: ns, by rw [h1]; rfl, ?_⟩
    rw [h1]
    unfold bytesOfL strOfNums
    simp only [List.map_cons, List.map_map, V.asInt, byteOfV]
    rfl
theorem repL_ints : ∀ {ns : List Int} {vs : List Value}, RepL X w (ns.map (V.int .u8)) (.vals vs) → vs = ns.map (Value.int .u8)
  | [], vs, h => by unfold RepL at h; exact h
  | n :: ns, vs, h => by
    rw [List.map_cons] at h
    unfold RepL at h
    obtain ⟨v, vs', rfl, h1, h2⟩ := h
    rw [rep_int h1, repL_ints h2]
    rfl
theorem back_row {src e dst : TypeId} (hs : P.underlying src = some (.slice e)) (he : P.underlying e = some (.int .u8)) (hd : P.underlying dst = some .string) {l : List V} (hb : bytesOk l = true)
    {a : Addr} {cap : Nat} (h : l = [] ∨ ∃ b o, a = ⟨b, o, none⟩ ∧ RepL X w l (.at_ b o)) : (convert src dst (.slice (some a) l.length cap)).run P w = .ok (.string (bytesOfL l)) w := by
  obtain ⟨ns, rfl, h2⟩ := bytes_ints hb
  rw [h2]
  rcases h with h | ⟨b, o, rfl, hr⟩
  · have : ns = [] := by simpa using h
    subst this
    rw [run_convert_bytes_string w src dst e _ _ _ hs he hd]
    simp [Conv.bytesToString, loadCells, loadCellsFrom]
    rfl
  · obtain ⟨vs, q1, q2, q3⟩ := hr.read (fun x hx => by obtain ⟨n, _, rfl⟩ := List.mem_map.1 hx; rfl)
    have := repL_ints q3
    subst this
    exact run_convert_bytes_arg w src e hs he b o _ cap ns (by simp) (fun i hi => q2 i _ (by
      rw [List.getElem?_map, List.getD_eq_getElem?_getD]
      have : i < ns.length := by simpa using hi
      rw [List.getElem?_eq_getElem this]
      rfl)) dst hd
theorem conv_sound (hT : TabOk P T) (E : Ents X w) {slot : Nat} (hs : ¬ X.ok slot) {src dst : TypeId} {a : V} {va : Value} {r : Res} (h : convE T X.H slot src dst a = some r) (hr : r.req = true) (ha : Rep X w a (.val va)) :
    ∃ v w', (convert src dst va).run P w = .ok v w' ∧ OpPost X w slot r v w' := by
  unfold convE at h
  cases h1 : T src with
  | none => rw [h1] at h; cases h
  | some i =>
    cases h2 : T dst with
    | none => rw [h1, h2] at h; cases h
    | some d =>
      have F := hT.facts h1
      have D := hT.facts h2
      rw [h1, h2] at h
      dsimp only at h
      cases a <;> first | (cases h; done) | skip
      case int k n =>
        cases hd : d.desc <;> rw [hd] at h <;> first | (cases h; done) | skip
        rename_i k'
        cases hi : i.desc <;> rw [hi] at h <;> first | (cases h; done) | skip
        rename_i k''
        simp only [Option.some.injEq] at h
        subst h
        have := rep_int ha
        subst this
        refine ⟨.int k' (k'.wrap n), w, ?_, .pure E rfl rfl rep_int_mk⟩
        simp [convert, run_underlying (und_int F hi), run_underlying (und_int D hd), Conv.intToInt]
      case str s =>
        have := rep_str ha
        subst this
        cases hd : d.desc <;> rw [hd] at h <;> first | (cases h; done) | skip
        case str =>
          cases hi : i.desc <;> rw [hi] at h <;> first | (cases h; done) | skip
          simp only [Option.some.injEq] at h
          subst h
          refine ⟨.string s, w, ?_, .pure E rfl rfl rep_str_mk⟩
          simp [convert, run_underlying (und_string F hi), run_underlying (und_string D hd)]
        case slice e =>
          dsimp only at h
          cases h3 : T e with
          | none => rw [h3] at h; cases h
          | some j =>
            rw [h3] at h
            dsimp only at h
            cases hj : j.desc <;> rw [hj] at h <;> first | (cases h; done) | skip
            rename_i k
            cases k <;> first | (cases h; done) | skip
            dsimp only at h
            cases hi : i.desc <;> rw [hi] at h <;> first | (cases h; done) | skip
            simp only [isStrD, if_true, Option.some.injEq] at h
            subst h
            have hrun := run_bytes_of_string (P := P) w src dst e s (und_string F hi) (und_slice' D hd) (und_int (hT.facts h3) hj)
            obtain ⟨cs, S, k1, k2⟩ := src_str (P := P) (X := X) (w := w) s
            have hge := grownCap_ge w s.size 0 e
            refine ⟨_, _, hrun, .new rfl rfl (NewOk.drew ?_)⟩
            have L := Later.drew X w
            have hbl := bytesV_len s
            have hcl : cs.length = s.size := by rw [← k1.len, flat_len_plain k2, hbl, Nat.mul_one]
            have hcs : cs = s.data.toList.map fun b => Value.int .u8 b.toNat := by
              have := S.first w s.size rfl (by rw [hbl]; exact Nat.le_refl _)
              have h4 : (Builtin.firstCells 1 s.size (.string s)).run P w = .ok ((s.data.toList.map fun b => Value.int .u8 b.toNat)).toArray w := by
                show (pure ((s.extract 0 s.size).data.map fun b => Value.int .u8 b.toNat) : Sem (Array Value)).run P w = _
                rw [Sem.run_pure]
                congr 1
                apply Array.toList_inj.1
                rw [Array.toList_map, ByteArray.data_extract, Array.toList_extract]
                simp only [List.extract, List.drop_zero, Nat.sub_zero]
                rw [List.map_take, List.take_of_length_le (by simp)]
              rw [h4, Nat.mul_one, ← hcl, List.take_length] at this
              simp only [Result.ok.injEq, and_true] at this
              have := congrArg Array.toList this
              simpa using this.symm
            have hrow : bytesRow s (grownCap w s.size 0 e) = (cs ++ List.replicate (grownCap w s.size 0 e - s.size) (Value.int .u8 0)).toArray := by
              apply Array.toList_inj.1
              unfold bytesRow
              rw [hcs]
              simp
            have hsz : (bytesRow s (grownCap w s.size 0 e)).size = grownCap w s.size 0 e := by
              rw [hrow]
              simp only [List.size_toArray, List.length_append, List.length_replicate]
              omega
            rw [hsz, hrow]
            rw [← hbl] at hge hcl ⊢
            refine new_arr hs (E.heap L rfl) e _ false (bytesV s).length _ k2 (RepL.later L _ _ (fun b o e => by cases e) k1) (fun o ho => ?_) hge (fun h => by cases h) ?_
            · simp only [World.frozen?, heap_alloc_new]
              have : (cs ++ List.replicate (grownCap w (bytesV s).length 0 e - (bytesV s).length) (Value.int .u8 0)).length = grownCap w (bytesV s).length 0 e := by
                simp only [List.length_append, List.length_replicate]; omega
              rw [this] at ho
              simp only [Bool.and_eq_false_imp, decide_eq_true_eq, decide_eq_false_iff_not]
              omega
            · simp only [List.length_append, List.length_replicate]; omega
      case sl sz l c n =>
        cases hd : d.desc <;> rw [hd] at h <;> first | (cases h; done) | skip
        cases hi : i.desc <;> rw [hi] at h <;> first | (cases h; done) | skip
        rename_i e
        dsimp only at h
        cases h3 : T e with
        | none => rw [h3] at h; cases h
        | some j =>
          rw [h3] at h
          dsimp only at h
          cases hj : j.desc <;> rw [hj] at h <;> first | (cases h; done) | skip
          rename_i k
          cases k <;> first | (cases h; done) | skip
          simp only [Option.some.injEq] at h
          subst h
          have u1 := und_slice' F hi
          have u2 := und_int (hT.facts h3) hj
          have u3 := und_string D hd
          unfold Rep holds at ha
          cases n with
          | true =>
            obtain ⟨rfl, rfl⟩ := ha
            exact ⟨_, w, run_convert_bytes_nil w src e u1 u2 0 0 dst u3, .pure E rfl rfl rep_str_mk⟩
          | false =>
            obtain ⟨A, cap, rfl, g1, g2, g3, g4⟩ := ha
            refine ⟨_, w, back_row (X := X) u1 u2 u3 hr (cap := cap) ?_, .pure E rfl rfl rep_str_mk⟩
            rcases g4 with g4 | ⟨gs, gst, gl⟩
            · exact .inl g4
            · obtain ⟨b, o, s⟩ := A
              simp only at gs
              subst gs
              exact .inr ⟨b, o, rfl, gl⟩
      case own id lo len c =>
        cases hd : d.desc <;> rw [hd] at h <;> first | (cases h; done) | skip
        cases hi : i.desc <;> rw [hi] at h <;> first | (cases h; done) | skip
        rename_i e
        dsimp only at h
        cases h3 : T e with
        | none => rw [h3] at h; cases h
        | some j =>
          rw [h3] at h
          dsimp only at h
          cases hj : j.desc <;> rw [hj] at h <;> first | (cases h; done) | skip
          rename_i k
          cases k <;> first | (cases h; done) | skip
          cases ho : ownElems X.H id lo len with
          | none => rw [ho] at h; cases h
          | some p =>
            obtain ⟨sz, l, r0⟩ := p
            rw [ho] at h
            simp only [Option.some.injEq] at h
            subst h
            simp only [Bool.and_eq_true] at hr
            obtain ⟨q1, q2, q3, q4, q5⟩ := own_row E ho hr.1
            obtain ⟨A, cap, rfl, hA, c1, c2, c3⟩ := rep_own_val q1 ha
            rw [← q3]
            refine ⟨_, w, back_row (X := X) (und_slice' F hi) (und_int (hT.facts h3) hj) (und_string D hd) hr.2 (cap := cap) ?_, .pure E rfl rfl rep_str_mk⟩
            rcases hA with hA | rfl
            · left
              apply List.eq_nil_of_length_eq_zero
              omega
            · right
              rw [q2] at q5
              exact ⟨_, _, rfl, q5⟩

/-! ### operations on one value -/
theorem un_sound {op : UnOp} {a v : V} {va : Value} (h : unE op a = some v) (ha : Rep X w a (.val va)) : ∃ u, (Op.unary op va).run P w = .ok u w ∧ Rep X w v (.val u) := by
  unfold unE at h
  cases op <;> cases a <;> first | (cases h; done) | skip
  all_goals (simp only [Option.some.injEq] at h; subst h)
  · have := rep_int ha; subst this
    exact ⟨_, rfl, rep_int_mk⟩
  · have := rep_int ha; subst this
    exact ⟨_, rfl, rep_int_mk⟩
  · have := rep_bool ha; subst this
    exact ⟨_, rfl, rep_bool_mk⟩
end

end Go.Vi
