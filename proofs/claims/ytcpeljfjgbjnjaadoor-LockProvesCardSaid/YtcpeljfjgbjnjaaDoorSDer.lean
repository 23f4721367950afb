/- Keys of keys: what the functions of derive come to. (Printed by gen_der.py) -/
import Derived.Test.YtcpeljfjgbjnjaaDoorSHash
set_option linter.unusedSimpArgs false
namespace Go.Proofs.YtcpeljfjgbjnjaaDoor
open Go Go.Vi
attribute [local irreducible] PCalls GCalls LoopOk RoundOk
/-- the empty text -/
def e0 : ByteArray := ⟨#[]⟩
def of1F (a : ByteArray) : ByteArray := sumF (bhV numsH0 e0 a) (bhR numsH0 e0 a) (0 + a.size)
def of2F (a b : ByteArray) : ByteArray := sumF (bhV (bhV numsH0 e0 a) (bhR numsH0 e0 a) b) (bhR (bhV numsH0 e0 a) (bhR numsH0 e0 a) b) (0 + a.size + b.size)
theorem bh_ok {v : List Int} {r s : ByteArray} {m : Nat} (h : m % 64 = r.size) : (m + s.size) % 64 = (bhR v r s).size := by
  rw [bhR_size]
  omega
theorem of1_r (cl : Bool) (a : ByteArray) : runV Cf 9 166 [(.sl 1 [(.str a)] cl false)] [] [.call [(.agg [(.sl 1 (w8 numsH0) true false), (.str e0), (.int .u64 0)])], .yes, .call [(.agg [(.sl 1 (w8 (bhV numsH0 e0 a)) true false), (.str (bhR numsH0 e0 a)), (.int .u64 ((0 + a.size : Nat) : Int))]), (.int .i64 0)], .no, .call [(.str (sumF (bhV numsH0 e0 a) (bhR numsH0 e0 a) (0 + a.size))), (.int .i64 0)]] = some ([(.str (sumF (bhV numsH0 e0 a) (bhR numsH0 e0 a) (0 + a.size)))], [(.box [(.sl 1 (w8 (bhV numsH0 e0 a)) true false), (.str (bhR numsH0 e0 a)), (.int .u64 ((0 + a.size : Nat) : Int))] 225)], [], true, [PCalls Cf 203 [] [(.agg [(.sl 1 (w8 numsH0) true false), (.str e0), (.int .u64 0)])], PCalls Cf 204 [(.agg [(.sl 1 (w8 numsH0) true false), (.str e0), (.int .u64 0)]), (.str a)] [(.agg [(.sl 1 (w8 (bhV numsH0 e0 a)) true false), (.str (bhR numsH0 e0 a)), (.int .u64 ((0 + a.size : Nat) : Int))]), (.int .i64 0)], PCalls Cf 205 [(.agg [(.sl 1 (w8 (bhV numsH0 e0 a)) true false), (.str (bhR numsH0 e0 a)), (.int .u64 ((0 + a.size : Nat) : Int))])] [(.str (sumF (bhV numsH0 e0 a) (bhR numsH0 e0 a) (0 + a.size))), (.int .i64 0)]]) := by kernel_rfl
theorem of1_c (cl : Bool) (a : ByteArray) (ha : a.size ≤ 1099511627776) : PCalls Cf 166 [(.sl 1 [(.str a)] cl false)] [.str (of1F a)] := by
  have k0 : 0 % 64 = e0.size := rfl
  have k1 := bh_ok (v := numsH0) (s := a) k0
  refine pc (of1_r cl a) ?_ ⟨new_c, write_c _ _ _ _ 0 k0 (by omega), sum_c _ _ _ _ k1, trivial⟩ rfl rfl
  simp
theorem of2_r (cl : Bool) (a b : ByteArray) : runV Cf 9 166 [(.sl 1 [(.str a), (.str b)] cl false)] [] [.call [(.agg [(.sl 1 (w8 numsH0) true false), (.str e0), (.int .u64 0)])], .yes, .call [(.agg [(.sl 1 (w8 (bhV numsH0 e0 a)) true false), (.str (bhR numsH0 e0 a)), (.int .u64 ((0 + a.size : Nat) : Int))]), (.int .i64 0)], .yes, .call [(.agg [(.sl 1 (w8 (bhV (bhV numsH0 e0 a) (bhR numsH0 e0 a) b)) true false), (.str (bhR (bhV numsH0 e0 a) (bhR numsH0 e0 a) b)), (.int .u64 ((0 + a.size + b.size : Nat) : Int))]), (.int .i64 0)], .no, .call [(.str (sumF (bhV (bhV numsH0 e0 a) (bhR numsH0 e0 a) b) (bhR (bhV numsH0 e0 a) (bhR numsH0 e0 a) b) (0 + a.size + b.size))), (.int .i64 0)]] = some ([(.str (sumF (bhV (bhV numsH0 e0 a) (bhR numsH0 e0 a) b) (bhR (bhV numsH0 e0 a) (bhR numsH0 e0 a) b) (0 + a.size + b.size)))], [(.box [(.sl 1 (w8 (bhV (bhV numsH0 e0 a) (bhR numsH0 e0 a) b)) true false), (.str (bhR (bhV numsH0 e0 a) (bhR numsH0 e0 a) b)), (.int .u64 ((0 + a.size + b.size : Nat) : Int))] 225)], [], true, [PCalls Cf 203 [] [(.agg [(.sl 1 (w8 numsH0) true false), (.str e0), (.int .u64 0)])], PCalls Cf 204 [(.agg [(.sl 1 (w8 numsH0) true false), (.str e0), (.int .u64 0)]), (.str a)] [(.agg [(.sl 1 (w8 (bhV numsH0 e0 a)) true false), (.str (bhR numsH0 e0 a)), (.int .u64 ((0 + a.size : Nat) : Int))]), (.int .i64 0)], PCalls Cf 204 [(.agg [(.sl 1 (w8 (bhV numsH0 e0 a)) true false), (.str (bhR numsH0 e0 a)), (.int .u64 ((0 + a.size : Nat) : Int))]), (.str b)] [(.agg [(.sl 1 (w8 (bhV (bhV numsH0 e0 a) (bhR numsH0 e0 a) b)) true false), (.str (bhR (bhV numsH0 e0 a) (bhR numsH0 e0 a) b)), (.int .u64 ((0 + a.size + b.size : Nat) : Int))]), (.int .i64 0)], PCalls Cf 205 [(.agg [(.sl 1 (w8 (bhV (bhV numsH0 e0 a) (bhR numsH0 e0 a) b)) true false), (.str (bhR (bhV numsH0 e0 a) (bhR numsH0 e0 a) b)), (.int .u64 ((0 + a.size + b.size : Nat) : Int))])] [(.str (sumF (bhV (bhV numsH0 e0 a) (bhR numsH0 e0 a) b) (bhR (bhV numsH0 e0 a) (bhR numsH0 e0 a) b) (0 + a.size + b.size))), (.int .i64 0)]]) := by kernel_rfl
theorem of2_c (cl : Bool) (a b : ByteArray) (ha : a.size ≤ 1099511627776) (hb : b.size ≤ 1099511627776) : PCalls Cf 166 [(.sl 1 [(.str a), (.str b)] cl false)] [.str (of2F a b)] := by
  have k0 : 0 % 64 = e0.size := rfl
  have k1 := bh_ok (v := numsH0) (s := a) k0
  have k2 := bh_ok (v := bhV numsH0 e0 a) (s := b) k1
  refine pc (of2_r cl a b) ?_ ⟨new_c, write_c _ _ _ _ 0 k0 (by omega), write_c _ _ _ _ (0 + a.size) k1 (by omega), sum_c _ _ _ _ k2, trivial⟩ rfl rfl
  simp
def padK (k : ByteArray) : ByteArray := (k ++ (zeros ((IntKind.i64.wrap (64 - (k.size : Int)))).toNat))
theorem pad_count {k : ByteArray} (hk : k.size ≤ 64) : IntKind.i64.wrap (64 - (k.size : Int)) = ((64 - k.size : Nat) : Int) := by
  rw [IntWalk.i64_in _ (by omega)]
  omega
theorem padK_size {k : ByteArray} (hk : k.size ≤ 64) : (padK k).size = 64 := by
  unfold padK
  rw [pad_count hk, ByteArray.size_append, zeros_size]
  omega
def padN (k : ByteArray) (c : Int) (j : Nat) : List Int := updN (fun _ x => xorI .u8 x c) (nums (padK k)) j
def padF (k : ByteArray) (c : Int) : ByteArray := bytesOfL (ints .u8 (padN k c 64))
theorem padN_len {k : ByteArray} (hk : k.size ≤ 64) (c : Int) (j : Nat) : (padN k c j).length = 64 := by
  unfold padN
  rw [updN_len, nums_len, padK_size hk]
theorem padF_size {k : ByteArray} (hk : k.size ≤ 64) (c : Int) : (padF k c).size = 64 := by
  unfold padF
  rw [bytesOfL_size, ints_len, padN_len hk]
theorem pad_l (k : ByteArray) (c : Int) (j : Nat) (w : List Int) : roundV Cf 9 167 [0, 1, 0, 1, 1, 1] 0 0 [1, 5, 21, 22] (tmOf 35 [(1, (.int .u8 c)), (5, (.own 0 0 (padK k).size false)), (21, (.int .i64 (((padK k).size : Nat) : Int))), (22, (.int .i64 (j : Int)))]) [(.arr 1 (ints .u8 w) 5)] [.yes] = some (.normal, (tmOf 35 [(1, (.int .u8 c)), (5, (.own 0 0 (padK k).size false)), (21, (.int .i64 (((padK k).size : Nat) : Int))), (22, (.int .i64 (IntKind.i64.wrap ((j : Int) + 1))))]), [(.arr 1 ((ints .u8 w).set (((0 + ((j : Int)).toNat) * 1) / 1) (remake ((ints .u8 w).getD (((0 + ((j : Int)).toNat) * 1) / 1) .undef) (splice ((ints .u8 w).getD (((0 + ((j : Int)).toNat) * 1) / 1) .undef).cells (((0 + ((j : Int)).toNat) * 1) % 1) [(.int .u8 (xorI .u8 (V.asInt ((((ints .u8 w).getD (((0 + ((j : Int)).toNat) * 1) / 1) .undef).cells.drop (((0 + ((j : Int)).toNat) * 1) % 1)).headD .undef)) c))]))) 5)], [], (((decide ((j : Int) < (((padK k).size : Nat) : Int))) && true) && (((((decide ((0 : Int) ≤ (j : Int))) && (decide (((j : Int)).toNat < (padK k).size))) && true) && (((((decide ((((0 + ((j : Int)).toNat) * 1) / 1) < (ints .u8 w).length)) && (decide (((((0 + ((j : Int)).toNat) * 1) % 1) + 1) ≤ 1))) && true) && (((decide ((0 : Nat) < (((ints .u8 w).getD (((0 + ((j : Int)).toNat) * 1) / 1) .undef).cells.drop (((0 + ((j : Int)).toNat) * 1) % 1)).length)) && (shapeOk (.int .u8) ((((ints .u8 w).getD (((0 + ((j : Int)).toNat) * 1) / 1) .undef).cells.drop (((0 + ((j : Int)).toNat) * 1) % 1)).headD .undef))) && true)) && ((((decide ((0 : Int) ≤ (j : Int))) && (decide (((j : Int)).toNat < (padK k).size))) && true) && (((decide ((((0 + ((j : Int)).toNat) * 1) / 1) < (ints .u8 w).length)) && (decide (((((0 + ((j : Int)).toNat) * 1) % 1) + 1) ≤ 1))) && true)))) && true)), []) := by kernel_rfl
theorem pad_x (k : ByteArray) (c : Int) (j : Nat) (w : List Int) : roundV Cf 9 167 [0, 1, 0, 1, 1, 1] 0 0 [1, 5, 21, 22] (tmOf 35 [(1, (.int .u8 c)), (5, (.own 0 0 (padK k).size false)), (21, (.int .i64 (((padK k).size : Nat) : Int))), (22, (.int .i64 (j : Int)))]) [(.arr 1 (ints .u8 w) 5)] [.no] = some ((.exit 0), (tmOf 35 [(1, (.int .u8 c)), (5, (.own 0 0 (padK k).size false)), (21, (.int .i64 (((padK k).size : Nat) : Int))), (22, (.int .i64 (j : Int))), (23, (.bool (decide ((j : Int) < (((padK k).size : Nat) : Int)))))]), [(.arr 1 (ints .u8 w) 5)], [], ((!(decide ((j : Int) < (((padK k).size : Nat) : Int)))) && true), []) := by kernel_rfl
theorem pad_c (k : ByteArray) (c : Int) (hk : k.size ≤ 64) : LoopOk Cf 167 [0, 1, 0, 1, 1, 1] 0 (tmOf 35 [(0, (.str k)), (1, (.int .u8 c)), (4, (.str (⟨#[]⟩ : ByteArray))), (5, (.own 0 0 (padK k).size false)), (7, (.str k)), (8, (.int .i64 (k.size : Int))), (9, (.bool (decide ((64 : Int) < (k.size : Int))))), (13, (.str k)), (14, (.str k)), (15, (.int .i64 (k.size : Int))), (16, (.int .i64 (IntKind.i64.wrap (64 - (k.size : Int))))), (17, (.str (zeros ((IntKind.i64.wrap (64 - (k.size : Int)))).toNat))), (18, (.str (padK k))), (19, (.own 0 0 (padK k).size false)), (20, (.own 0 0 (padK k).size false)), (21, (.int .i64 (((padK k).size : Nat) : Int))), (22, (.int .i64 0))]) [(.arr 1 (bytesV (padK k)) 5)] (.exit 0) (tmOf 35 [(1, (.int .u8 c)), (5, (.own 0 0 (padK k).size false)), (21, (.int .i64 (((padK k).size : Nat) : Int))), (22, (.int .i64 (((padK k).size : Nat) : Int))), (23, (.bool (decide ((((padK k).size : Nat) : Int) < (((padK k).size : Nat) : Int)))))]) [(.arr 1 (ints .u8 (padN k c (padK k).size)) 5)] := by
  have hs := padK_size hk
  refine lp [1, 5, 21, 22] (by simp) (padK k).size (fun j => ⟨(tmOf 35 [(1, (.int .u8 c)), (5, (.own 0 0 (padK k).size false)), (21, (.int .i64 (((padK k).size : Nat) : Int))), (22, (.int .i64 (j : Int)))]), [(.arr 1 (ints .u8 (padN k c j)) 5)]⟩) (by rw [bytesV_nums]; kernel_rfl) (fun j hj => ?_) ?_
  · have hl := padN_len hk c j
    have h := pad_l k c j (padN k c j)
    simp only [Int.toNat_natCast, Nat.zero_add, Nat.mul_one, Nat.div_one, Nat.mod_one, List.drop_zero] at h
    rw [ints_cells .u8 _ _ (by omega), List.headD_cons, IntWalk.i64_in ((j : Int) + 1) (by omega)] at h
    simp only [V.asInt] at h
    rw [ints_put .u8 _ _ _ (by omega)] at h
    refine rd h ?_ trivial
    simp only [ints_len, hl, hs, Bool.and_true, Bool.and_eq_true, decide_eq_true_eq, List.length_singleton, shapeOk, beq_self_eq_true]
    omega
  · refine rd (pad_x k c (padK k).size (padN k c (padK k).size)) ?_ trivial
    simp
theorem padded_r (k : ByteArray) (c : Int) : runV Cf 9 167 [(.str k), (.int .u8 c)] [] [.no, .call [(.str (zeros ((IntKind.i64.wrap (64 - (k.size : Int)))).toNat))], .loop (.exit 0) (tmOf 35 [(1, (.int .u8 c)), (5, (.own 0 0 (padK k).size false)), (21, (.int .i64 (((padK k).size : Nat) : Int))), (22, (.int .i64 (((padK k).size : Nat) : Int))), (23, (.bool (decide ((((padK k).size : Nat) : Int) < (((padK k).size : Nat) : Int)))))]) [(.arr 1 (ints .u8 (padN k c (padK k).size)) 5)]] = some ([(.str (bytesOfL (((ints .u8 (padN k c (padK k).size)).drop 0).take (padK k).size)))], [(.arr 1 (ints .u8 (padN k c (padK k).size)) 5)], [], ((((!(decide ((64 : Int) < (k.size : Int)))) && true) && (((decide (k.size + (zeros ((IntKind.i64.wrap (64 - (k.size : Int)))).toNat).size ≤ 9223372036854775807)) && true) && ((((decide ((0 + (padK k).size) ≤ (ints .u8 (padN k c (padK k).size)).length)) && (bytesOk (((ints .u8 (padN k c (padK k).size)).drop 0).take (padK k).size))) && true) && true))) && true), [PCalls Cf 206 [(.str (⟨#[0]⟩ : ByteArray)), (.int .i64 (IntKind.i64.wrap (64 - (k.size : Int))))] [(.str (zeros ((IntKind.i64.wrap (64 - (k.size : Int)))).toNat))], LoopOk Cf 167 [0, 1, 0, 1, 1, 1] 0 (tmOf 35 [(0, (.str k)), (1, (.int .u8 c)), (4, (.str (⟨#[]⟩ : ByteArray))), (5, (.own 0 0 (padK k).size false)), (7, (.str k)), (8, (.int .i64 (k.size : Int))), (9, (.bool (decide ((64 : Int) < (k.size : Int))))), (13, (.str k)), (14, (.str k)), (15, (.int .i64 (k.size : Int))), (16, (.int .i64 (IntKind.i64.wrap (64 - (k.size : Int))))), (17, (.str (zeros ((IntKind.i64.wrap (64 - (k.size : Int)))).toNat))), (18, (.str (padK k))), (19, (.own 0 0 (padK k).size false)), (20, (.own 0 0 (padK k).size false)), (21, (.int .i64 (((padK k).size : Nat) : Int))), (22, (.int .i64 0))]) [(.arr 1 (bytesV (padK k)) 5)] (.exit 0) (tmOf 35 [(1, (.int .u8 c)), (5, (.own 0 0 (padK k).size false)), (21, (.int .i64 (((padK k).size : Nat) : Int))), (22, (.int .i64 (((padK k).size : Nat) : Int))), (23, (.bool (decide ((((padK k).size : Nat) : Int) < (((padK k).size : Nat) : Int)))))]) [(.arr 1 (ints .u8 (padN k c (padK k).size)) 5)]]) := by kernel_rfl
theorem padded_c (k : ByteArray) (c : Int) (hk : k.size ≤ 64) : PCalls Cf 167 [(.str k), (.int .u8 c)] [.str (padF k c)] := by
  have hs := padK_size hk
  have hl := padN_len hk c 64
  have hz := repeat_c ⟨#[0]⟩ (64 - k.size) (by omega) (by rw [show (⟨#[0]⟩ : ByteArray).size = 1 from rfl]; omega)
  have h := padded_r k c
  have hp := pad_c k c hk
  have e : (ints .u8 (padN k c (padK k).size)).take (padK k).size = ints .u8 (padN k c 64) := by rw [hs, ints_take, List.take_of_length_le (by omega)]
  rw [List.drop_zero, e] at h
  rw [pad_count hk, Int.toNat_natCast] at h hp
  refine pc h ?_ ⟨hz, hp, trivial⟩ rfl rfl
  rw [bytesOk_ints, zeros_size, ints_len, hs, hl]
  simp only [Bool.and_true, Bool.and_eq_true, decide_eq_true_eq, Bool.not_eq_true', decide_eq_false_iff_not]
  omega
theorem tag_r (k s : ByteArray) : runV Cf 9 113 [(.str k), (.str s)] [] [.call [(.str (padF k 92))], .call [(.str (padF k 54))], .call [(.str (of2F (padF k 54) s))], .call [(.str (of2F (padF k 92) (of2F (padF k 54) s)))]] = some ([(.str (of2F (padF k 92) (of2F (padF k 54) s)))], [(.arr 1 [(.str (padF k 54)), (.str s)] 9), (.arr 1 [(.str (padF k 92)), (.str (of2F (padF k 54) s))] 9)], [], true, [PCalls Cf 167 [(.str k), (.int .u8 92)] [(.str (padF k 92))], PCalls Cf 167 [(.str k), (.int .u8 54)] [(.str (padF k 54))], PCalls Cf 166 [(.sl 1 [(.str (padF k 54)), (.str s)] true false)] [(.str (of2F (padF k 54) s))], PCalls Cf 166 [(.sl 1 [(.str (padF k 92)), (.str (of2F (padF k 54) s))] true false)] [(.str (of2F (padF k 92) (of2F (padF k 54) s)))]]) := by kernel_rfl
def tagF (k s : ByteArray) : ByteArray := of2F (padF k 92) (of2F (padF k 54) s)
theorem of2F_size (a b : ByteArray) : (of2F a b).size = 32 := outB_size _
theorem tagF_size (k s : ByteArray) : (tagF k s).size = 32 := outB_size _
theorem tag_c (k s : ByteArray) (hk : k.size ≤ 64) (hs : s.size ≤ 1099511627776) : PCalls Cf 113 [.str k, .str s] [.str (tagF k s)] := by
  have h1 := padF_size hk 92
  have h2 := padF_size hk 54
  have h3 := of2F_size (padF k 54) s
  exact pc (tag_r k s) rfl ⟨padded_c k 92 hk, padded_c k 54 hk, of2_c true _ _ (by omega) hs, of2_c true _ _ (by omega) (by omega), trivial⟩ rfl rfl
def ex1 (k w : ByteArray) : ByteArray := tagF k ((⟨#[]⟩ ++ w) ++ ⟨#[1]⟩)
def ex2 (k w : ByteArray) : ByteArray := tagF k ((ex1 k w ++ w) ++ ⟨#[2]⟩)
def ex3 (k w : ByteArray) : ByteArray := tagF k ((ex2 k w ++ w) ++ ⟨#[3]⟩)
/-- three keys, one behind the other -/
def exF (k w : ByteArray) : ByteArray := (ex1 k w ++ ex2 k w) ++ ex3 k w
theorem exF_size (k w : ByteArray) : (exF k w).size = 96 := by
  unfold exF ex1 ex2 ex3
  simp only [ByteArray.size_append, tagF_size]
theorem expand_r (k w : ByteArray) : runV Cf 9 165 [(.str k), (.str w), (.int .i64 96)] [] [.yes, .yes, .no, .no, .inl, .yes, .call [(.str (ex1 k w))], .inl, .inl, .yes, .keep [(.ref 0 0)] [(.box [.nilptr, (.sl 1 [] true true)] 111), (.arr 1 [(.int .u8 1)] 5)], .own, .inl, .yes, .call [(.str (ex2 k w))], .inl, .inl, .no, .no, .inl, .yes, .call [(.str (ex3 k w))], .inl, .inl, .no, .no, .inl, .no, .inl] = some ([(.str ((bytesOfL ((((bytesV (ex1 k w)) ++ (bytesV (ex2 k w))) ++ (bytesV (ex3 k w))).take ((((((0 + (bytesV (ex1 k w)).length) + (bytesV (ex2 k w)).length) + (bytesV (ex3 k w)).length) : Nat) : Int)).toNat)).extract 0 96)), (.int .i64 0)], [(.box [(.ref 0 0), (.own 1 0 (((0 + (bytesV (ex1 k w)).length) + (bytesV (ex2 k w)).length) + (bytesV (ex3 k w)).length) false)] 111), .dead], [], (((((((decide ((⟨#[]⟩ : ByteArray).size + w.size ≤ 9223372036854775807)) && ((decide (((⟨#[]⟩ : ByteArray) ++ w).size + (⟨#[1]⟩ : ByteArray).size ≤ 9223372036854775807)) && true)) && ((((((decide ((0 : Nat) < (bytesV (ex1 k w)).length)) && (decide ((0 + (bytesV (ex1 k w)).length) ≤ 1073741824))) && true) && true) && true) && true)) && true) && ((((decide ((((0 + (bytesV (ex1 k w)).length) : Nat) : Int) < 96)) && true) && ((((decide ((ex1 k w).size + w.size ≤ 9223372036854775807)) && ((decide (((ex1 k w) ++ w).size + (⟨#[2]⟩ : ByteArray).size ≤ 9223372036854775807)) && true)) && ((((((decide ((0 + (bytesV (ex1 k w)).length) = (bytesV (ex1 k w)).length)) && (decide (((bytesV (ex1 k w)).length + (bytesV (ex2 k w)).length) ≤ 1073741824))) && true) && true) && true) && true)) && true)) && ((((decide (((((0 + (bytesV (ex1 k w)).length) + (bytesV (ex2 k w)).length) : Nat) : Int) < 96)) && true) && ((((decide ((ex2 k w).size + w.size ≤ 9223372036854775807)) && ((decide (((ex2 k w) ++ w).size + (⟨#[3]⟩ : ByteArray).size ≤ 9223372036854775807)) && true)) && ((((((decide (((0 + (bytesV (ex1 k w)).length) + (bytesV (ex2 k w)).length) = ((bytesV (ex1 k w)) ++ (bytesV (ex2 k w))).length)) && (decide ((((bytesV (ex1 k w)) ++ (bytesV (ex2 k w))).length + (bytesV (ex3 k w)).length) ≤ 1073741824))) && true) && true) && true) && true)) && true)) && ((!(decide ((((((0 + (bytesV (ex1 k w)).length) + (bytesV (ex2 k w)).length) + (bytesV (ex3 k w)).length) : Nat) : Int) < 96))) && true)))) && ((((((decide ((0 : Nat) < (((0 + (bytesV (ex1 k w)).length) + (bytesV (ex2 k w)).length) + (bytesV (ex3 k w)).length))) && (((decide ((0 : Int) < (((((0 + (bytesV (ex1 k w)).length) + (bytesV (ex2 k w)).length) + (bytesV (ex3 k w)).length) : Nat) : Int))) && ((decide (((((((0 + (bytesV (ex1 k w)).length) + (bytesV (ex2 k w)).length) + (bytesV (ex3 k w)).length) : Nat) : Int)).toNat ≤ (((bytesV (ex1 k w)) ++ (bytesV (ex2 k w))) ++ (bytesV (ex3 k w))).length)) && ((decide (((((((0 + (bytesV (ex1 k w)).length) + (bytesV (ex2 k w)).length) + (bytesV (ex3 k w)).length) : Nat) : Int)).toNat ≤ 1073741824)) && (bytesIn ((((bytesV (ex1 k w)) ++ (bytesV (ex2 k w))) ++ (bytesV (ex3 k w))).take ((((((0 + (bytesV (ex1 k w)).length) + (bytesV (ex2 k w)).length) + (bytesV (ex3 k w)).length) : Nat) : Int)).toNat))))) && true)) && true) && true) && ((decide ((96 : Nat) ≤ (bytesOfL ((((bytesV (ex1 k w)) ++ (bytesV (ex2 k w))) ++ (bytesV (ex3 k w))).take ((((((0 + (bytesV (ex1 k w)).length) + (bytesV (ex2 k w)).length) + (bytesV (ex3 k w)).length) : Nat) : Int)).toNat)).size)) && true)) && true)) && true), [PCalls Cf 113 [(.str k), (.str (((⟨#[]⟩ : ByteArray) ++ w) ++ (⟨#[1]⟩ : ByteArray)))] [(.str (ex1 k w))], GCalls Cf 173 [(.ref 0 0)] [(.box [.nilptr, (.sl 1 [] true true)] 111), (.arr 1 [(.int .u8 1)] 5)] [(.ref 0 0)] [(.box [.nilptr, (.sl 1 [] true true)] 111), (.arr 1 [(.int .u8 1)] 5)], PCalls Cf 113 [(.str k), (.str (((ex1 k w) ++ w) ++ (⟨#[2]⟩ : ByteArray)))] [(.str (ex2 k w))], PCalls Cf 113 [(.str k), (.str (((ex2 k w) ++ w) ++ (⟨#[3]⟩ : ByteArray)))] [(.str (ex3 k w))]]) := by kernel_rfl
theorem expand_c (k w : ByteArray) (hk : k.size ≤ 64) (hw : w.size ≤ 1073741824) : PCalls Cf 165 [(.str k), (.str w), (.int .i64 96)] [.str (exF k w), .int .i64 0] := by
  have h := expand_r k w
  have s1 : (ex1 k w).size = 32 := tagF_size _ _
  have s2 : (ex2 k w).size = 32 := tagF_size _ _
  have s3 : (ex3 k w).size = 32 := tagF_size _ _
  have h0 : (⟨#[]⟩ : ByteArray).size = 0 := rfl
  have z1 : (⟨#[1]⟩ : ByteArray).size = 1 := rfl
  have z2 : (⟨#[2]⟩ : ByteArray).size = 1 := rfl
  have z3 : (⟨#[3]⟩ : ByteArray).size = 1 := rfl
  have e : ((bytesV (ex1 k w)) ++ (bytesV (ex2 k w))) ++ (bytesV (ex3 k w)) = bytesV (exF k w) := by rw [bytesV_append, bytesV_append]; rfl
  have ht : (bytesV (exF k w)).take 96 = bytesV (exF k w) := by have := bytesV_take (exF k w); rwa [exF_size] at this
  have hx : (exF k w).extract 0 96 = exF k w := by have := extract_all (exF k w); rwa [exF_size] at this
  have n1 : (((0 + (bytesV (ex1 k w)).length) + (bytesV (ex2 k w)).length) + (bytesV (ex3 k w)).length) = 96 := by rw [bytesV_len, bytesV_len, bytesV_len]; omega
  rw [e] at h
  rw [n1] at h
  rw [show ((96 : Nat) : Int).toNat = 96 from rfl, ht, bytesOfL_bytesV, hx] at h
  have hp : ∀ s : ByteArray, s.size ≤ 1099511627776 → PCalls Cf 113 [.str k, .str s] [.str (tagF k s)] := fun s hs => tag_c k s hk hs
  refine pc h ?_ ⟨hp _ ?_, noescape_c _ _ _, hp _ ?_, hp _ ?_, trivial⟩ rfl rfl
  · simp only [true_and, and_true, List.length_append, bytesV_len, ByteArray.size_append, s1, s2, s3, z1, z2, z3, h0, exF_size, bytesIn_bytesV, Bool.and_true, Bool.and_eq_true, decide_eq_true_eq, Bool.not_eq_true', decide_eq_false_iff_not]
    omega
  all_goals simp only [ByteArray.size_append, s1, s2, z1, z2, z3, h0]; omega
theorem split_r (k w : ByteArray) : runV Cf 9 112 [(.str k), (.str w), (.int .i64 3)] [] [.yes, .yes, .no, .no, .call [(.str (exF k w)), (.int .i64 0)], .yes, .yes, .yes, .no] = some ([(.own 0 0 3 false), (.int .i64 0)], [(.arr 1 [(.str ((exF k w).extract 0 32)), (.str (((exF k w).extract 32 (exF k w).size).extract 0 32)), (.str ((((exF k w).extract 32 (exF k w).size).extract 32 ((exF k w).extract 32 (exF k w).size).size).extract 0 32))] 9)], [], ((((((!(decide ((exF k w) = (⟨#[]⟩ : ByteArray)))) && true) && (((decide ((32 : Nat) ≤ (exF k w).size)) && true) && (((decide ((32 : Nat) ≤ (exF k w).size)) && (decide ((exF k w).size ≤ (exF k w).size))) && true))) && ((((!(decide (((exF k w).extract 32 (exF k w).size) = (⟨#[]⟩ : ByteArray)))) && true) && (((decide ((32 : Nat) ≤ ((exF k w).extract 32 (exF k w).size).size)) && true) && (((decide ((32 : Nat) ≤ ((exF k w).extract 32 (exF k w).size).size)) && (decide (((exF k w).extract 32 (exF k w).size).size ≤ ((exF k w).extract 32 (exF k w).size).size))) && true))) && ((((!(decide ((((exF k w).extract 32 (exF k w).size).extract 32 ((exF k w).extract 32 (exF k w).size).size) = (⟨#[]⟩ : ByteArray)))) && true) && (((decide ((32 : Nat) ≤ (((exF k w).extract 32 (exF k w).size).extract 32 ((exF k w).extract 32 (exF k w).size).size).size)) && true) && (((decide ((32 : Nat) ≤ (((exF k w).extract 32 (exF k w).size).extract 32 ((exF k w).extract 32 (exF k w).size).size).size)) && (decide ((((exF k w).extract 32 (exF k w).size).extract 32 ((exF k w).extract 32 (exF k w).size).size).size ≤ (((exF k w).extract 32 (exF k w).size).extract 32 ((exF k w).extract 32 (exF k w).size).size).size))) && true))) && ((!(!(decide (((((exF k w).extract 32 (exF k w).size).extract 32 ((exF k w).extract 32 (exF k w).size).size).extract 32 (((exF k w).extract 32 (exF k w).size).extract 32 ((exF k w).extract 32 (exF k w).size).size).size) = (⟨#[]⟩ : ByteArray))))) && true)))) && true) && true), [PCalls Cf 165 [(.str k), (.str w), (.int .i64 96)] [(.str (exF k w)), (.int .i64 0)]]) := by kernel_rfl
def k1F (k w : ByteArray) : ByteArray := (exF k w).extract 0 32
def k2F (k w : ByteArray) : ByteArray := ((exF k w).extract 32 96).extract 0 32
def k3F (k w : ByteArray) : ByteArray := (((exF k w).extract 32 96).extract 32 64).extract 0 32
theorem k1F_size (k w : ByteArray) : (k1F k w).size = 32 := by
  unfold k1F
  simp only [extract_size, exF_size]
  omega
theorem k2F_size (k w : ByteArray) : (k2F k w).size = 32 := by
  unfold k2F
  simp only [extract_size, exF_size]
  omega
theorem k3F_size (k w : ByteArray) : (k3F k w).size = 32 := by
  unfold k3F
  simp only [extract_size, exF_size]
  omega
theorem not_empty {x : ByteArray} (h : 0 < x.size) : decide (x = (⟨#[]⟩ : ByteArray)) = false := by
  rw [decide_eq_false_iff_not]
  intro h0
  rw [h0] at h
  exact absurd h (by decide)
theorem is_empty {x : ByteArray} (h : x.size = 0) : decide (x = (⟨#[]⟩ : ByteArray)) = true := by
  rw [decide_eq_true_eq]
  apply ByteArray.ext
  exact Array.eq_empty_of_size_eq_zero h
theorem split_c (k w : ByteArray) (hk : k.size ≤ 64) (hw : w.size ≤ 1073741824) : PCalls Cf 112 [(.str k), (.str w), (.int .i64 3)] [.sl 1 [.str (k1F k w), .str (k2F k w), .str (k3F k w)] false false, .int .i64 0] := by
  have h := split_r k w
  have s0 := exF_size k w
  have s1 : ((exF k w).extract 32 96).size = 64 := by rw [extract_size]; omega
  have s2 : (((exF k w).extract 32 96).extract 32 64).size = 32 := by rw [extract_size]; omega
  have s3 : ((((exF k w).extract 32 96).extract 32 64).extract 32 32).size = 0 := by rw [extract_size]; omega
  rw [s0] at h
  rw [s1] at h
  rw [s2] at h
  refine pc h ?_ ⟨expand_c k w hk hw, trivial⟩ rfl rfl
  rw [not_empty (by omega), not_empty (by omega), not_empty (by omega), is_empty s3]
  rfl
theorem zero_or_self (x : Int) : orI .i64 0 (xorI .i64 x x) = 0 := by
  have : xorI .i64 x x = 0 := by
    unfold xorI
    rw [BitVec.xor_self]
    rfl
  rw [this]
  decide
theorem same_l (a : ByteArray) (j : Nat) : roundV Cf 9 71 [0, 1, 0, 1, 1] 0 0 [0, 1, 5, 13, 14] (tmOf 41 [(0, (.str a)), (1, (.str a)), (5, (.int .i64 0)), (13, (.int .i64 (if (a.size : Int) > (a.size : Int) then (a.size : Int) else (a.size : Int)))), (14, (.int .i64 (j : Int)))]) [] [.yes, .yes, .yes] = some (.normal, (tmOf 41 [(0, (.str a)), (1, (.str a)), (5, (.int .i64 (orI .i64 0 (xorI .i64 (IntKind.i64.wrap (byteAt a ((j : Int)).toNat)) (IntKind.i64.wrap (byteAt a ((j : Int)).toNat)))))), (13, (.int .i64 (if (a.size : Int) > (a.size : Int) then (a.size : Int) else (a.size : Int)))), (14, (.int .i64 (IntKind.i64.wrap ((j : Int) + 1))))]), [], [], (((decide ((j : Int) < (if (a.size : Int) > (a.size : Int) then (a.size : Int) else (a.size : Int)))) && true) && ((((decide ((j : Int) < (a.size : Int))) && (((decide ((0 : Int) ≤ (j : Int))) && (decide (((j : Int)).toNat < a.size))) && true)) && (((decide ((j : Int) < (a.size : Int))) && (((decide ((0 : Int) ≤ (j : Int))) && (decide (((j : Int)).toNat < a.size))) && true)) && true)) && true)), []) := by kernel_rfl
theorem same_x (a : ByteArray) (j : Nat) : roundV Cf 9 71 [0, 1, 0, 1, 1] 0 0 [0, 1, 5, 13, 14] (tmOf 41 [(0, (.str a)), (1, (.str a)), (5, (.int .i64 0)), (13, (.int .i64 (if (a.size : Int) > (a.size : Int) then (a.size : Int) else (a.size : Int)))), (14, (.int .i64 (j : Int)))]) [] [.no] = some ((.exit 0), (tmOf 41 [(0, (.str a)), (1, (.str a)), (5, (.int .i64 0)), (13, (.int .i64 (if (a.size : Int) > (a.size : Int) then (a.size : Int) else (a.size : Int)))), (14, (.int .i64 (j : Int))), (15, (.bool (decide ((j : Int) < (if (a.size : Int) > (a.size : Int) then (a.size : Int) else (a.size : Int))))))]), [], [], ((!(decide ((j : Int) < (if (a.size : Int) > (a.size : Int) then (a.size : Int) else (a.size : Int))))) && true), []) := by kernel_rfl
theorem same_lc (a : ByteArray) (ha : a.size ≤ 1073741824) : LoopOk Cf 71 [0, 1, 0, 1, 1] 0 (tmOf 41 [(0, (.str a)), (1, (.str a)), (4, (.bool false)), (5, (.int .i64 0)), (9, (.str a)), (10, (.int .i64 (a.size : Int))), (11, (.str a)), (12, (.int .i64 (a.size : Int))), (13, (.int .i64 (if (a.size : Int) > (a.size : Int) then (a.size : Int) else (a.size : Int)))), (14, (.int .i64 0))]) [] (.exit 0) (tmOf 41 [(0, (.str a)), (1, (.str a)), (5, (.int .i64 0)), (13, (.int .i64 (if (a.size : Int) > (a.size : Int) then (a.size : Int) else (a.size : Int)))), (14, (.int .i64 ((a.size : Nat) : Int))), (15, (.bool (decide (((a.size : Nat) : Int) < (if (a.size : Int) > (a.size : Int) then (a.size : Int) else (a.size : Int))))))]) [] := by
  refine lp [0, 1, 5, 13, 14] (by simp) a.size (fun j => ⟨(tmOf 41 [(0, (.str a)), (1, (.str a)), (5, (.int .i64 0)), (13, (.int .i64 (if (a.size : Int) > (a.size : Int) then (a.size : Int) else (a.size : Int)))), (14, (.int .i64 (j : Int)))]), []⟩) (by kernel_rfl) (fun j hj => ?_) ?_
  · have h := same_l a j
    rw [IntWalk.i64_in ((j : Int) + 1) (by omega), zero_or_self] at h
    refine rd h ?_ trivial
    simp only [ite_self, Int.toNat_natCast, Bool.and_true, Bool.and_eq_true, decide_eq_true_eq]
    omega
  · refine rd (same_x a a.size) ?_ trivial
    simp
theorem same_r (a : ByteArray) : runV Cf 9 71 [(.str a), (.str a)] [] [.loop (.exit 0) (tmOf 41 [(0, (.str a)), (1, (.str a)), (5, (.int .i64 0)), (13, (.int .i64 (if (a.size : Int) > (a.size : Int) then (a.size : Int) else (a.size : Int)))), (14, (.int .i64 ((a.size : Nat) : Int))), (15, (.bool (decide (((a.size : Nat) : Int) < (if (a.size : Int) > (a.size : Int) then (a.size : Int) else (a.size : Int))))))]) []] = some ([(.bool true)], [], [], true, [LoopOk Cf 71 [0, 1, 0, 1, 1] 0 (tmOf 41 [(0, (.str a)), (1, (.str a)), (4, (.bool false)), (5, (.int .i64 0)), (9, (.str a)), (10, (.int .i64 (a.size : Int))), (11, (.str a)), (12, (.int .i64 (a.size : Int))), (13, (.int .i64 (if (a.size : Int) > (a.size : Int) then (a.size : Int) else (a.size : Int)))), (14, (.int .i64 0))]) [] (.exit 0) (tmOf 41 [(0, (.str a)), (1, (.str a)), (5, (.int .i64 0)), (13, (.int .i64 (if (a.size : Int) > (a.size : Int) then (a.size : Int) else (a.size : Int)))), (14, (.int .i64 ((a.size : Nat) : Int))), (15, (.bool (decide (((a.size : Nat) : Int) < (if (a.size : Int) > (a.size : Int) then (a.size : Int) else (a.size : Int))))))]) []]) := by kernel_rfl
theorem same_c (a : ByteArray) (ha : a.size ≤ 1073741824) : PCalls Cf 71 [(.str a), (.str a)] [.bool true] :=
  pc (same_r a) rfl ⟨same_lc a ha, trivial⟩ rfl rfl
#print axioms padded_c
#print axioms tag_c
#print axioms expand_c
#print axioms split_c
#print axioms same_c
end Go.Proofs.YtcpeljfjgbjnjaaDoor
