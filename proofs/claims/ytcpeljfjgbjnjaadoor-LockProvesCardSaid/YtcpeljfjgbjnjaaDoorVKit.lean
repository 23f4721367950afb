/- Aids for contracts: states as tables; rows of whole numbers; what binds a contract to the evaluator's outcome. -/
import Derived.Test.YtcpeljfjgbjnjaaDoorVCfg
import Derived.IntWalk
namespace Go.Vi
/-- the slots of a frame, by a table -/
def tmOf (n : Nat) (l : List (Nat × V)) : List V := (List.range n).map fun i => (l.lookup i).getD .undef
/-- whole numbers of a kind -/
def ints (k : IntKind) (l : List Int) : List V := l.map (V.int k)
theorem ints_len (k : IntKind) (l : List Int) : (ints k l).length = l.length := by simp [ints]
theorem ints_getD (k : IntKind) (l : List Int) (i : Nat) (h : i < l.length) : (ints k l).getD i .undef = .int k (l.getD i 0) := by
  simp [ints, List.getD_eq_getElem?_getD, h]
theorem ints_asInt (k : IntKind) (l : List Int) (i : Nat) (h : i < l.length) : V.asInt ((ints k l).getD i .undef) = l.getD i 0 := by rw [ints_getD k l i h]; rfl
theorem ints_shapeB (k : IntKind) (l : List Int) (i : Nat) (h : i < l.length) : shapeOkB (.int k) ((ints k l).getD i .undef) = true := by rw [ints_getD k l i h]; simp [shapeOkB]
theorem ints_shape (k : IntKind) (l : List Int) (i : Nat) (h : i < l.length) : shapeOk (.int k) ((ints k l).getD i .undef) = true := by rw [ints_getD k l i h]; simp [shapeOk]
theorem ints_splice (k : IntKind) (l : List Int) (i : Nat) (n : Int) (h : i < l.length) : splice (ints k l) i [.int k n] = ints k (l.set i n) := by
  unfold splice ints
  rw [← List.map_take, show ([V.int k n] : List V).length = 1 from rfl, ← List.map_drop, show [V.int k n] = List.map (V.int k) [n] from rfl, ← List.map_append, ← List.map_append]
  congr 1
  rw [List.set_eq_take_append_cons_drop, if_pos h]
  simp
theorem tdiv_nat (x c : Int) (h : 0 ≤ x) : Int.tdiv x c = x / c := Int.tdiv_eq_ediv_of_nonneg h
theorem tmod_nat (x c : Int) (h : 0 ≤ x) : Int.tmod x c = x % c := Int.tmod_eq_emod_of_nonneg h
theorem ints_cells (k : IntKind) (l : List Int) (i : Nat) (h : i < l.length) : ((ints k l).getD i .undef).cells = [.int k (l.getD i 0)] := by rw [ints_getD k l i h]; rfl
theorem ints_set (k : IntKind) (l : List Int) (i : Nat) (x : Int) : (ints k l).set i (.int k x) = ints k (l.set i x) := by simp [ints, List.map_set]
theorem ints_put (k : IntKind) (l : List Int) (i : Nat) (x : Int) (h : i < l.length) : (ints k l).set i (remake ((ints k l).getD i .undef) (splice [.int k (l.getD i 0)] 0 [.int k x])) = ints k (l.set i x) := by
  rw [ints_getD k l i h, ← ints_set]
  rfl
theorem ints_take (k : IntKind) (l : List Int) (n : Nat) : (ints k l).take n = ints k (l.take n) := by simp [ints, List.map_take]
theorem bytesOk_ints (l : List Int) : bytesOk (ints .u8 l) = true := by
  unfold bytesOk
  rw [List.all_eq_true]
  intro x hx
  obtain ⟨n, _, rfl⟩ := List.mem_map.1 hx
  rfl
/-- a text's bytes, as numbers -/
def nums (s : ByteArray) : List Int := s.data.toList.map fun b => (b.toNat : Int)
theorem nums_len (s : ByteArray) : (nums s).length = s.size := by
  unfold nums
  rw [List.length_map]
  rfl
theorem bytesV_nums (s : ByteArray) : bytesV s = ints .u8 (nums s) := by
  unfold bytesV nums ints
  rw [List.map_map]
  rfl
theorem bytesOfL_size (l : List V) : (bytesOfL l).size = l.length := by simp [bytesOfL, ByteArray.size]
theorem bytesV_append (a b : ByteArray) : bytesV a ++ bytesV b = bytesV (a ++ b) := by
  unfold bytesV
  rw [ByteArray.data_append, Array.toList_append, List.map_append]
theorem byteOfV_byteV (b : UInt8) : byteOfV (byteV b) = b := by
  show (Int.toNat (b.toNat : Int)).toUInt8 = b
  rw [Int.toNat_natCast]
  simp
theorem bytesOfL_bytesV (s : ByteArray) : bytesOfL (bytesV s) = s := by
  unfold bytesOfL bytesV
  rw [List.map_map, show byteOfV ∘ byteV = id from funext byteOfV_byteV, List.map_id]
theorem bytesIn_bytesV (s : ByteArray) : bytesIn (bytesV s) = true := by
  unfold bytesIn bytesV
  rw [List.all_eq_true]
  intro x hx
  obtain ⟨b, _, rfl⟩ := List.mem_map.1 hx
  have := b.toNat_lt
  have h1 : decide ((0 : Int) ≤ (b.toNat : Int)) = true := decide_eq_true (by omega)
  have h2 : decide ((b.toNat : Int) < 256) = true := decide_eq_true (by omega)
  show (shapeOk (.int .u8) (.int .u8 (b.toNat : Int)) && (decide ((0 : Int) ≤ (b.toNat : Int)) && decide ((b.toNat : Int) < 256))) = true
  rw [h1, h2]
  rfl
theorem bytesV_take (s : ByteArray) : (bytesV s).take s.size = bytesV s := List.take_of_length_le (by rw [bytesV_len]; exact Nat.le_refl _)
theorem extract_all (s : ByteArray) : s.extract 0 s.size = s := by
  apply ByteArray.ext
  rw [ByteArray.data_extract]
  exact Array.extract_size
/-- numbers, put anew one by one -/
def updN (g : Nat → Int → Int) (w : List Int) : Nat → List Int
  | 0 => w
  | j + 1 => (updN g w j).set j (g j ((updN g w j).getD j 0))
theorem updN_len (g : Nat → Int → Int) (w : List Int) : ∀ j, (updN g w j).length = w.length
  | 0 => rfl
  | j + 1 => by rw [updN, List.length_set, updN_len g w j]
theorem updN_getD (g : Nat → Int → Int) (w : List Int) (i : Nat) (hi : i < w.length) : ∀ j, (updN g w j).getD i 0 = if i < j then g i (w.getD i 0) else w.getD i 0
  | 0 => by simp [updN]
  | j + 1 => by
    have ih := updN_getD g w i hi j
    have hl := updN_len g w j
    rw [updN]
    by_cases hij : i = j
    · subst hij
      rw [if_pos (by omega), List.getD_eq_getElem?_getD, List.getElem?_set_self (by omega), Option.getD_some, ih, if_neg (by omega)]
    · rw [List.getD_eq_getElem?_getD, List.getElem?_set_ne (fun h => hij h.symm), ← List.getD_eq_getElem?_getD, ih]
      by_cases h : i < j
      · rw [if_pos h, if_pos (by omega)]
      · rw [if_neg h, if_neg (by omega)]
end Go.Vi
namespace Go.Proofs.YtcpeljfjgbjnjaaDoor
open Go Go.Vi
/-- A contract out of an evaluation whose results need no heap. -/
theorem pc {n : Nat} {f : FuncId} {args rs us : List V} {H' : List Ent} {ad ad' : Ad} {q q' : Bool} {ps : List Prop} (h : runV Cf n f args [] ad = some (rs, H', ad', q, ps)) (hq : q = true) (hp : allP ps) (hv : views H' rs = some (us, q')) (hq' : q' = true) : PCalls Cf f args us :=
  @pcalls_of_run Cf cf_ok cf_draw n f args rs us H' ad ad' q q' ps h hv hq hq' hp
theorem gc {n : Nat} {f : FuncId} {args rs : List V} {H H' : List Ent} {ad ad' : Ad} {q : Bool} {ps : List Prop} (h : runV Cf n f args H ad = some (rs, H', ad', q, ps)) (hq : q = true) (hp : allP ps) : GCalls Cf f args H rs H' :=
  @runV_sound Cf cf_ok cf_draw n f args H ad rs H' ad' q ps h hq hp
theorem rd {n : Nat} {f : FuncId} {p : List Nat} {b B : Nat} {lv : List Nat} {tm tm' : List V} {H H' : List Ent} {ad ad' : Ad} {x : Ex} {q : Bool} {ps : List Prop}
    (h : roundV Cf n f p b B lv tm H ad = some (x, tm', H', ad', q, ps)) (hq : q = true) (hp : allP ps) : RoundOk Cf f p B lv ⟨tm, H⟩ x ⟨tm', H'⟩ := round_ok cf_ok cf_draw h hq hp
theorem lp {f : FuncId} {p : List Nat} {B : Nat} (lv : List Nat) {tm tm' : List V} {H H' : List Ent} {x : Ex} (hx : x ≠ .normal) (n : Nat) (T : Nat → St) (h0 : tidy B lv ⟨tm, H⟩ = T 0)
    (hr : ∀ k, k < n → RoundOk Cf f p B lv (T k) .normal (T (k + 1))) (h : RoundOk Cf f p B lv (T n) x ⟨tm', H'⟩) : LoopOk Cf f p B tm H x tm' H' := loop_ok cf_ok lv hx n T h0 hr h
end Go.Proofs.YtcpeljfjgbjnjaaDoor
