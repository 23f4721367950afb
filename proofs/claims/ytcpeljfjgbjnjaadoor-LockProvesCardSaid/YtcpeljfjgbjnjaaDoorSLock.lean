/- Texts, locked: what the functions of lock come to. (Printed by gen_lock.py) -/
import Derived.Test.YtcpeljfjgbjnjaaDoorSStt
set_option linter.unusedSimpArgs false
namespace Go.Proofs.YtcpeljfjgbjnjaaDoor
open Go Go.Vi
attribute [local irreducible] PCalls GCalls LoopOk RoundOk
def xorN (k c s : ByteArray) (j : Nat) : List Int := updN (fun i x => xorI .u8 x (byteAt (streamF k c s.size) i)) (nums s) j
def xorF (k c s : ByteArray) : ByteArray := bytesOfL (ints .u8 (xorN k c s s.size))
theorem xorN_len (k c s : ByteArray) (j : Nat) : (xorN k c s j).length = s.size := by
  unfold xorN
  rw [updN_len, nums_len]
theorem xorF_size (k c s : ByteArray) : (xorF k c s).size = s.size := by
  unfold xorF
  rw [bytesOfL_size, ints_len, xorN_len]
theorem xor_l (k c s : ByteArray) (j : Nat) (w : List Int) : roundV Cf 9 114 [0, 1, 0, 1, 1, 1, 1] 0 0 [8, 10, 26, 27] (tmOf 42 [(8, (.str (streamF k c s.size))), (10, (.own 0 0 s.size false)), (26, (.int .i64 (s.size : Int))), (27, (.int .i64 (j : Int)))]) [(.arr 1 (ints .u8 w) 5)] [.yes] = some (.normal, (tmOf 42 [(8, (.str (streamF k c s.size))), (10, (.own 0 0 s.size false)), (26, (.int .i64 (s.size : Int))), (27, (.int .i64 (IntKind.i64.wrap ((j : Int) + 1))))]), [(.arr 1 ((ints .u8 w).set (((0 + ((j : Int)).toNat) * 1) / 1) (remake ((ints .u8 w).getD (((0 + ((j : Int)).toNat) * 1) / 1) .undef) (splice ((ints .u8 w).getD (((0 + ((j : Int)).toNat) * 1) / 1) .undef).cells (((0 + ((j : Int)).toNat) * 1) % 1) [(.int .u8 (xorI .u8 (V.asInt ((((ints .u8 w).getD (((0 + ((j : Int)).toNat) * 1) / 1) .undef).cells.drop (((0 + ((j : Int)).toNat) * 1) % 1)).headD .undef)) (byteAt (streamF k c s.size) ((j : Int)).toNat)))]))) 5)], [], (((decide ((j : Int) < (s.size : Int))) && true) && (((((decide ((0 : Int) ≤ (j : Int))) && (decide (((j : Int)).toNat < s.size))) && true) && (((((decide ((((0 + ((j : Int)).toNat) * 1) / 1) < (ints .u8 w).length)) && (decide (((((0 + ((j : Int)).toNat) * 1) % 1) + 1) ≤ 1))) && true) && (((decide ((0 : Nat) < (((ints .u8 w).getD (((0 + ((j : Int)).toNat) * 1) / 1) .undef).cells.drop (((0 + ((j : Int)).toNat) * 1) % 1)).length)) && (shapeOk (.int .u8) ((((ints .u8 w).getD (((0 + ((j : Int)).toNat) * 1) / 1) .undef).cells.drop (((0 + ((j : Int)).toNat) * 1) % 1)).headD .undef))) && true)) && (((decide ((0 : Int) ≤ (j : Int))) && (decide (((j : Int)).toNat < (streamF k c s.size).size))) && ((((decide ((0 : Int) ≤ (j : Int))) && (decide (((j : Int)).toNat < s.size))) && true) && (((decide ((((0 + ((j : Int)).toNat) * 1) / 1) < (ints .u8 w).length)) && (decide (((((0 + ((j : Int)).toNat) * 1) % 1) + 1) ≤ 1))) && true))))) && true)), []) := by kernel_rfl
theorem xor_x (k c s : ByteArray) (j : Nat) (w : List Int) : roundV Cf 9 114 [0, 1, 0, 1, 1, 1, 1] 0 0 [8, 10, 26, 27] (tmOf 42 [(8, (.str (streamF k c s.size))), (10, (.own 0 0 s.size false)), (26, (.int .i64 (s.size : Int))), (27, (.int .i64 (j : Int)))]) [(.arr 1 (ints .u8 w) 5)] [.no] = some ((.exit 0), (tmOf 42 [(8, (.str (streamF k c s.size))), (10, (.own 0 0 s.size false)), (26, (.int .i64 (s.size : Int))), (27, (.int .i64 (j : Int))), (28, (.bool (decide ((j : Int) < (s.size : Int)))))]), [(.arr 1 (ints .u8 w) 5)], [], ((!(decide ((j : Int) < (s.size : Int)))) && true), []) := by kernel_rfl
theorem xor_lc (k c s : ByteArray) (hz : s.size ≤ 1073741824) : LoopOk Cf 114 [0, 1, 0, 1, 1, 1, 1] 0 (tmOf 42 [(0, (.str k)), (1, (.str c)), (2, (.str s)), (6, (.str (⟨#[]⟩ : ByteArray))), (7, (.int .i64 0)), (8, (.str (streamF k c s.size))), (9, (.int .i64 0)), (10, (.own 0 0 s.size false)), (12, (.tup [(.str (streamF k c s.size)), (.int .i64 0)])), (13, (.str k)), (14, (.str c)), (15, (.str s)), (16, (.int .i64 (s.size : Int))), (17, (.tup [(.str (streamF k c s.size)), (.int .i64 0)])), (18, (.str (streamF k c s.size))), (19, (.int .i64 0)), (20, (.int .i64 0)), (21, (.bool false)), (23, (.str s)), (24, (.own 0 0 s.size false)), (25, (.own 0 0 s.size false)), (26, (.int .i64 (s.size : Int))), (27, (.int .i64 0))]) [(.arr 1 (bytesV s) 5)] (.exit 0) (tmOf 42 [(8, (.str (streamF k c s.size))), (10, (.own 0 0 s.size false)), (26, (.int .i64 (s.size : Int))), (27, (.int .i64 ((s.size : Nat) : Int))), (28, (.bool (decide (((s.size : Nat) : Int) < (s.size : Int)))))]) [(.arr 1 (ints .u8 (xorN k c s s.size)) 5)] := by
  have hq := streamF_size k c s.size
  refine lp [8, 10, 26, 27] (by simp) s.size (fun j => ⟨(tmOf 42 [(8, (.str (streamF k c s.size))), (10, (.own 0 0 s.size false)), (26, (.int .i64 (s.size : Int))), (27, (.int .i64 (j : Int)))]), [(.arr 1 (ints .u8 (xorN k c s j)) 5)]⟩) (by rw [bytesV_nums]; kernel_rfl) (fun j hj => ?_) ?_
  · have hl := xorN_len k c s j
    have h := xor_l k c s j (xorN k c s j)
    simp only [Int.toNat_natCast, Nat.zero_add, Nat.mul_one, Nat.div_one, Nat.mod_one, List.drop_zero] at h
    rw [ints_cells .u8 _ _ (by omega), List.headD_cons, IntWalk.i64_in ((j : Int) + 1) (by omega)] at h
    simp only [V.asInt] at h
    rw [ints_put .u8 _ _ _ (by omega)] at h
    refine rd h ?_ trivial
    simp only [ints_len, hl, hq, Bool.and_true, Bool.and_eq_true, decide_eq_true_eq, List.length_singleton, shapeOk, beq_self_eq_true]
    omega
  · refine rd (xor_x k c s s.size (xorN k c s s.size)) ?_ trivial
    simp
theorem xor_r (k c s : ByteArray) : runV Cf 9 114 [(.str k), (.str c), (.str s)] [] [.call [(.str (streamF k c s.size)), (.int .i64 0)], .no, .loop (.exit 0) (tmOf 42 [(8, (.str (streamF k c s.size))), (10, (.own 0 0 s.size false)), (26, (.int .i64 (s.size : Int))), (27, (.int .i64 ((s.size : Nat) : Int))), (28, (.bool (decide (((s.size : Nat) : Int) < (s.size : Int)))))]) [(.arr 1 (ints .u8 (xorN k c s s.size)) 5)]] = some ([(.str (bytesOfL (((ints .u8 (xorN k c s s.size)).drop 0).take s.size))), (.int .i64 0)], [(.arr 1 (ints .u8 (xorN k c s s.size)) 5)], [], (((((decide ((0 + s.size) ≤ (ints .u8 (xorN k c s s.size)).length)) && (bytesOk (((ints .u8 (xorN k c s s.size)).drop 0).take s.size))) && true) && true) && true), [PCalls Cf 168 [(.str k), (.str c), (.int .i64 (s.size : Int))] [(.str (streamF k c s.size)), (.int .i64 0)], LoopOk Cf 114 [0, 1, 0, 1, 1, 1, 1] 0 (tmOf 42 [(0, (.str k)), (1, (.str c)), (2, (.str s)), (6, (.str (⟨#[]⟩ : ByteArray))), (7, (.int .i64 0)), (8, (.str (streamF k c s.size))), (9, (.int .i64 0)), (10, (.own 0 0 s.size false)), (12, (.tup [(.str (streamF k c s.size)), (.int .i64 0)])), (13, (.str k)), (14, (.str c)), (15, (.str s)), (16, (.int .i64 (s.size : Int))), (17, (.tup [(.str (streamF k c s.size)), (.int .i64 0)])), (18, (.str (streamF k c s.size))), (19, (.int .i64 0)), (20, (.int .i64 0)), (21, (.bool false)), (23, (.str s)), (24, (.own 0 0 s.size false)), (25, (.own 0 0 s.size false)), (26, (.int .i64 (s.size : Int))), (27, (.int .i64 0))]) [(.arr 1 (bytesV s) 5)] (.exit 0) (tmOf 42 [(8, (.str (streamF k c s.size))), (10, (.own 0 0 s.size false)), (26, (.int .i64 (s.size : Int))), (27, (.int .i64 ((s.size : Nat) : Int))), (28, (.bool (decide (((s.size : Nat) : Int) < (s.size : Int)))))]) [(.arr 1 (ints .u8 (xorN k c s s.size)) 5)]]) := by kernel_rfl
theorem xor_c (k c s : ByteArray) (hk : k.size = 32) (hc : c.size = 12) (hz : s.size ≤ 4096) : PCalls Cf 114 [(.str k), (.str c), (.str s)] [.str (xorF k c s), .int .i64 0] := by
  have h := xor_r k c s
  have hl := xorN_len k c s s.size
  have e : (ints .u8 (xorN k c s s.size)).take s.size = ints .u8 (xorN k c s s.size) := List.take_of_length_le (by rw [ints_len]; omega)
  rw [List.drop_zero, e] at h
  refine pc h ?_ ⟨stream_c k c s.size hk hc hz, xor_lc k c s (by omega), trivial⟩ rfl rfl
  rw [bytesOk_ints, ints_len, hl]
  simp
def lockW : ByteArray := ⟨#[108, 111, 99, 107]⟩
def hideF (k : ByteArray) : ByteArray := k1F k lockW
def tagKF (k : ByteArray) : ByteArray := k2F k lockW
def nonceF (k : ByteArray) : ByteArray := (k3F k lockW).extract 0 12
theorem hideF_size (k : ByteArray) : (hideF k).size = 32 := k1F_size _ _
theorem tagKF_size (k : ByteArray) : (tagKF k).size = 32 := k2F_size _ _
theorem nonceF_size (k : ByteArray) : (nonceF k).size = 12 := by
  unfold nonceF
  rw [extract_size, k3F_size]
  rfl
def headB (h : ByteArray) : ByteArray := bytesOfL [.int .u8 (IntKind.u8.wrap (shrI .i64 (h.size : Int) 8)), .int .u8 (IntKind.u8.wrap (h.size : Int))]
theorem headB_size (h : ByteArray) : (headB h).size = 2 := by
  unfold headB
  rw [bytesOfL_size]
  rfl
def taggedF (k h b : ByteArray) : ByteArray := b ++ tagF k ((headB h ++ h) ++ b)
def turnF (k t : ByteArray) : ByteArray := xorF (hideF k) (nonceF k) t
def lockF (k h t : ByteArray) : ByteArray := taggedF (tagKF k) h (turnF k t)
theorem turnF_size (k t : ByteArray) : (turnF k t).size = t.size := xorF_size _ _ _
theorem taggedF_size (k h b : ByteArray) : (taggedF k h b).size = b.size + 32 := by
  unfold taggedF
  rw [ByteArray.size_append, tagF_size]
theorem splitl_c (k : ByteArray) (hk : k.size = 32) : PCalls Cf 112 [.str k, .str lockW, .int .i64 3] [.sl 1 [.str (k1F k lockW), .str (k2F k lockW), .str (k3F k lockW)] false false, .int .i64 0] := split_c k lockW (by omega) (by decide)
theorem taggedl_c (k h b : ByteArray) (hk : k.size = 32) (hh : h.size ≤ 1024) (hb : b.size ≤ 1024) : PCalls Cf 113 [.str k, .str ((headB h ++ h) ++ b)] [.str (tagF k ((headB h ++ h) ++ b))] :=
  tag_c k _ (by omega) (by
    have := headB_size h
    simp only [ByteArray.size_append]
    omega)
theorem keys_r (k : ByteArray) : runV Cf 9 27 [(.str k)] [] [.inl, .yes, .yes, .yes, .no, .yes, .yes, .no, .yes, .yes, .no, .no, .no, .inl, .call [(.sl 1 [(.str (hideF k)), (.str (tagKF k)), (.str (k3F k lockW))] false false), (.int .i64 0)]] = some ([(.str (hideF k)), (.str (tagKF k)), (.str (nonceF k)), (.int .i64 0)], [(.box [(.str (hideF k)), (.str (tagKF k)), (.str (nonceF k))] 102), (.box [(.str (hideF k)), (.str (tagKF k)), (.str (nonceF k))] 102)], [], (((((((((!(!(decide ((k.size : Int) = 32)))) && ((!(!(decide ((k.size : Int) = 32)))) && ((!(!(decide ((k.size : Int) = 32)))) && ((!(!(decide ((k.size : Int) = 32)))) && true)))) && true) && true) && true) && true) && true) && ((((((decide ((12 : Nat) ≤ (k3F k lockW).size)) && true) && true) && true) && true) && true)) && true), [PCalls Cf 112 [(.str k), (.str lockW), (.int .i64 3)] [(.sl 1 [(.str (hideF k)), (.str (tagKF k)), (.str (k3F k lockW))] false false), (.int .i64 0)]]) := by kernel_rfl
theorem keys_c (k : ByteArray) (hk : k.size = 32) : PCalls Cf 27 [(.str k)] [(.str (hideF k)), (.str (tagKF k)), (.str (nonceF k)), (.int .i64 0)] := by
  refine pc (keys_r k) ?_ ⟨splitl_c k hk, trivial⟩ rfl rfl
  have := k3F_size k lockW
  rw [this]
  simp only [hk, Bool.and_true, Bool.and_eq_true, decide_eq_true_eq, Bool.not_not, Bool.not_eq_true', decide_eq_false_iff_not, true_and, and_true]
  omega
theorem turned_r (a b c h t : ByteArray) : runV Cf 9 73 [(.agg [(.str a), (.str b), (.str c), (.str h)]), (.str t)] [] [.call [(.str (xorF a c t)), (.int .i64 0)]] = some ([(.str (xorF a c t))], [(.box [(.str a), (.str b), (.str c), (.str h)] 105)], [], true, [PCalls Cf 114 [(.str a), (.str c), (.str t)] [(.str (xorF a c t)), (.int .i64 0)]]) := by kernel_rfl
theorem turned_c (a b c h t : ByteArray) (ha : a.size = 32) (hc : c.size = 12) (ht : t.size ≤ 4096) : PCalls Cf 73 [(.agg [(.str a), (.str b), (.str c), (.str h)]), (.str t)] [.str (xorF a c t)] :=
  pc (turned_r a b c h t) rfl ⟨xor_c _ _ _ ha hc ht, trivial⟩ rfl rfl
theorem tagged_r (a b c h t : ByteArray) : runV Cf 9 72 [(.agg [(.str a), (.str b), (.str c), (.str h)]), (.str t)] [] [.call [(.str (tagF b (((headB h) ++ h) ++ t)))]] = some ([(.str (t ++ (tagF b (((headB h) ++ h) ++ t))))], [(.box [(.str a), (.str b), (.str c), (.str h)] 105), (.arr 1 [(.int .u8 (IntKind.u8.wrap (shrI .i64 (h.size : Int) 8))), (.int .u8 (IntKind.u8.wrap (h.size : Int)))] 5)], [], ((((decide ((headB h).size + h.size ≤ 9223372036854775807)) && ((decide (((headB h) ++ h).size + t.size ≤ 9223372036854775807)) && ((decide (t.size + (tagF b (((headB h) ++ h) ++ t)).size ≤ 9223372036854775807)) && true))) && true) && true), [PCalls Cf 113 [(.str b), (.str (((headB h) ++ h) ++ t))] [(.str (tagF b (((headB h) ++ h) ++ t)))]]) := by kernel_rfl
theorem tagged_c (a b c h t : ByteArray) (hb : b.size = 32) (hh : h.size ≤ 1024) (ht : t.size ≤ 1024) : PCalls Cf 72 [(.agg [(.str a), (.str b), (.str c), (.str h)]), (.str t)] [.str (taggedF b h t)] := by
  have s2 := headB_size h
  have s4 : (tagF b ((headB h ++ h) ++ t)).size = 32 := tagF_size _ _
  refine pc (tagged_r a b c h t) ?_ ⟨taggedl_c _ _ _ hb hh ht, trivial⟩ rfl rfl
  simp only [ByteArray.size_append, s2, s4, Bool.and_true, Bool.and_eq_true, decide_eq_true_eq]
  omega
theorem lock_r (k h t : ByteArray) : runV Cf 9 28 [(.str k), (.str h), (.str t)] [] [.inl, .yes, .yes, .yes, .no, .yes, .yes, .no, .yes, .yes, .no, .no, .no, .inl, .call [(.sl 1 [(.str (hideF k)), (.str (tagKF k)), (.str (k3F k lockW))] false false), (.int .i64 0)], .call [(.str (xorF (hideF k) (nonceF k) t))], .call [(.str (taggedF (tagKF k) h (xorF (hideF k) (nonceF k) t)))]] = some ([(.str (taggedF (tagKF k) h (xorF (hideF k) (nonceF k) t))), (.int .i64 0)], [(.box [(.str (hideF k)), (.str (tagKF k)), (.str (nonceF k))] 102), (.box [(.str (hideF k)), (.str (tagKF k)), (.str (nonceF k)), (.str h)] 105)], [], (((((((((!(!(decide ((k.size : Int) = 32)))) && ((!(!(decide ((k.size : Int) = 32)))) && ((!(!(decide ((k.size : Int) = 32)))) && ((!(!(decide ((k.size : Int) = 32)))) && ((!(decide ((1024 : Int) < (h.size : Int)))) && ((!(decide ((1024 : Int) < (h.size : Int)))) && ((!(decide ((1024 : Int) < (h.size : Int)))) && ((!(decide ((t.size : Int) < 0))) && ((!(decide ((t.size : Int) < 0))) && ((!(decide ((t.size : Int) < 0))) && true)))))))))) && ((!(decide ((1024 : Int) < (t.size : Int)))) && true)) && true) && true) && true) && true) && ((((((decide ((12 : Nat) ≤ (k3F k lockW).size)) && true) && true) && true) && true) && true)) && true), [PCalls Cf 112 [(.str k), (.str lockW), (.int .i64 3)] [(.sl 1 [(.str (hideF k)), (.str (tagKF k)), (.str (k3F k lockW))] false false), (.int .i64 0)], PCalls Cf 73 [(.agg [(.str (hideF k)), (.str (tagKF k)), (.str (nonceF k)), (.str h)]), (.str t)] [(.str (xorF (hideF k) (nonceF k) t))], PCalls Cf 72 [(.agg [(.str (hideF k)), (.str (tagKF k)), (.str (nonceF k)), (.str h)]), (.str (xorF (hideF k) (nonceF k) t))] [(.str (taggedF (tagKF k) h (xorF (hideF k) (nonceF k) t)))]]) := by kernel_rfl
theorem lock_c (k h t : ByteArray) (hk : k.size = 32) (hh : h.size ≤ 1024) (ht : t.size ≤ 1024) : PCalls Cf 28 [(.str k), (.str h), (.str t)] [.str (lockF k h t), .int .i64 0] := by
  have s1 := k3F_size k lockW
  refine pc (lock_r k h t) ?_ ⟨splitl_c k hk, turned_c _ _ _ _ _ (hideF_size k) (nonceF_size k) (by omega), tagged_c _ _ _ _ _ (tagKF_size k) hh (by rw [xorF_size]; omega), trivial⟩ rfl rfl
  rw [s1]
  simp only [hk, Bool.and_true, Bool.and_eq_true, decide_eq_true_eq, Bool.not_not, Bool.not_eq_true', decide_eq_false_iff_not, true_and, and_true]
  omega
theorem again_r (k h t : ByteArray) : runV Cf 9 29 [(.str k), (.str h), (.str t)] [] [.inl, .yes, .yes, .yes, .no, .yes, .yes, .no, .yes, .yes, .no, .no, .no, .call [(.str (taggedF k h t))]] = some ([(.str (taggedF k h t)), (.int .i64 0)], [], [], (((((((((!(!(decide ((k.size : Int) = 32)))) && ((!(!(decide ((k.size : Int) = 32)))) && ((!(!(decide ((k.size : Int) = 32)))) && ((!(!(decide ((k.size : Int) = 32)))) && ((!(decide ((1024 : Int) < (h.size : Int)))) && ((!(decide ((1024 : Int) < (h.size : Int)))) && ((!(decide ((1024 : Int) < (h.size : Int)))) && ((!(decide ((t.size : Int) < 0))) && ((!(decide ((t.size : Int) < 0))) && ((!(decide ((t.size : Int) < 0))) && true)))))))))) && ((!(decide ((1024 : Int) < (t.size : Int)))) && true)) && true) && true) && true) && true) && true) && true), [PCalls Cf 72 [(.agg [(.str (⟨#[]⟩ : ByteArray)), (.str k), (.str (⟨#[]⟩ : ByteArray)), (.str h)]), (.str t)] [(.str (taggedF k h t))]]) := by kernel_rfl
theorem again_c (k h t : ByteArray) (hk : k.size = 32) (hh : h.size ≤ 1024) (ht : t.size ≤ 1024) : PCalls Cf 29 [(.str k), (.str h), (.str t)] [.str (taggedF k h t), .int .i64 0] := by
  refine pc (again_r k h t) ?_ ⟨tagged_c _ _ _ _ _ hk hh ht, trivial⟩ rfl rfl
  simp only [hk, Bool.and_true, Bool.and_eq_true, decide_eq_true_eq, Bool.not_not, Bool.not_eq_true', decide_eq_false_iff_not, true_and, and_true]
  omega
theorem open_r (k h z : ByteArray) : runV Cf 9 16 [(.str k), (.str h), (.str z)] [] [.inl, .yes, .yes, .yes, .no, .yes, .yes, .no, .yes, .yes, .no, .no, .no, .inl, .call [(.sl 1 [(.str (hideF k)), (.str (tagKF k)), (.str (k3F k lockW))] false false), (.int .i64 0)], .call [(.str (taggedF (tagKF k) h (z.extract 0 ((IntKind.i64.wrap ((z.size : Int) - 32))).toNat)))], .call [(.bool true)], .no, .call [(.str (xorF (hideF k) (nonceF k) (z.extract 0 ((IntKind.i64.wrap ((z.size : Int) - 32))).toNat)))]] = some ([(.str (xorF (hideF k) (nonceF k) (z.extract 0 ((IntKind.i64.wrap ((z.size : Int) - 32))).toNat))), (.int .i64 0)], [(.box [(.str (hideF k)), (.str (tagKF k)), (.str (nonceF k))] 102), (.box [(.str (hideF k)), (.str (tagKF k)), (.str (nonceF k)), (.str h)] 105)], [], (((((((((!(!(decide ((k.size : Int) = 32)))) && ((!(!(decide ((k.size : Int) = 32)))) && ((!(!(decide ((k.size : Int) = 32)))) && ((!(!(decide ((k.size : Int) = 32)))) && ((!(decide ((1024 : Int) < (h.size : Int)))) && ((!(decide ((1024 : Int) < (h.size : Int)))) && ((!(decide ((1024 : Int) < (h.size : Int)))) && ((!(decide ((IntKind.i64.wrap ((z.size : Int) - 32)) < 0))) && ((!(decide ((IntKind.i64.wrap ((z.size : Int) - 32)) < 0))) && ((!(decide ((IntKind.i64.wrap ((z.size : Int) - 32)) < 0))) && true)))))))))) && ((!(decide ((1024 : Int) < (IntKind.i64.wrap ((z.size : Int) - 32))))) && true)) && true) && true) && true) && true) && ((((((decide ((12 : Nat) ≤ (k3F k lockW).size)) && true) && true) && true) && true) && ((((((decide ((0 : Int) ≤ (IntKind.i64.wrap ((z.size : Int) - 32)))) && (decide ((0 : Nat) ≤ ((IntKind.i64.wrap ((z.size : Int) - 32))).toNat))) && (decide (((IntKind.i64.wrap ((z.size : Int) - 32))).toNat ≤ z.size))) && true) && true) && (((((decide ((0 : Int) ≤ (IntKind.i64.wrap ((z.size : Int) - 32)))) && (decide ((0 : Nat) ≤ ((IntKind.i64.wrap ((z.size : Int) - 32))).toNat))) && (decide (((IntKind.i64.wrap ((z.size : Int) - 32))).toNat ≤ z.size))) && true) && true)))) && true), [PCalls Cf 112 [(.str k), (.str lockW), (.int .i64 3)] [(.sl 1 [(.str (hideF k)), (.str (tagKF k)), (.str (k3F k lockW))] false false), (.int .i64 0)], PCalls Cf 72 [(.agg [(.str (hideF k)), (.str (tagKF k)), (.str (nonceF k)), (.str h)]), (.str (z.extract 0 ((IntKind.i64.wrap ((z.size : Int) - 32))).toNat))] [(.str (taggedF (tagKF k) h (z.extract 0 ((IntKind.i64.wrap ((z.size : Int) - 32))).toNat)))], PCalls Cf 71 [(.str (taggedF (tagKF k) h (z.extract 0 ((IntKind.i64.wrap ((z.size : Int) - 32))).toNat))), (.str z)] [(.bool true)], PCalls Cf 73 [(.agg [(.str (hideF k)), (.str (tagKF k)), (.str (nonceF k)), (.str h)]), (.str (z.extract 0 ((IntKind.i64.wrap ((z.size : Int) - 32))).toNat))] [(.str (xorF (hideF k) (nonceF k) (z.extract 0 ((IntKind.i64.wrap ((z.size : Int) - 32))).toNat)))]]) := by kernel_rfl
theorem extract_left (a b : ByteArray) : (a ++ b).extract 0 a.size = a := by
  apply ByteArray.ext
  rw [ByteArray.data_extract, ByteArray.data_append]
  show (a.data ++ b.data).extract 0 a.data.size = a.data
  simp
theorem open_c (k h b : ByteArray) (hk : k.size = 32) (hh : h.size ≤ 1024) (hb : b.size ≤ 1024) : PCalls Cf 16 [.str k, .str h, .str (taggedF (tagKF k) h b)] [.str (turnF k b), .int .i64 0] := by
  have s1 := k3F_size k lockW
  have hz := taggedF_size (tagKF k) h b
  have hx : (taggedF (tagKF k) h b).extract 0 b.size = b := extract_left _ _
  have r := open_r k h (taggedF (tagKF k) h b)
  rw [IntWalk.i64_in (((taggedF (tagKF k) h b).size : Int) - 32) (by omega), show ((taggedF (tagKF k) h b).size : Int) - 32 = (b.size : Int) by omega, Int.toNat_natCast, hx] at r
  refine pc r ?_ ⟨splitl_c k hk, tagged_c _ _ _ _ _ (tagKF_size k) hh hb, same_c _ (by omega), turned_c _ _ _ _ _ (hideF_size k) (nonceF_size k) (by omega), trivial⟩ rfl rfl
  rw [s1]
  simp only [hk, Bool.and_true, Bool.and_eq_true, decide_eq_true_eq, Bool.not_not, Bool.not_eq_true', decide_eq_false_iff_not, true_and, and_true]
  omega
theorem lockb0_r (k h t : ByteArray) : runV Cf 9 28 [(.str k), (.str h), (.str t)] [] [.inl, .no, .no, .no, .yes, .no, .no, .yes, .no, .no, .yes, .yes, .yes] = some ([(.str (⟨#[]⟩ : ByteArray)), (.int .i64 2)], [], [], (((((((!(decide ((k.size : Int) = 32))) && ((!(decide ((k.size : Int) = 32))) && ((!(decide ((k.size : Int) = 32))) && ((!(decide ((k.size : Int) = 32))) && true)))) && true) && true) && true) && true) && true), []) := by kernel_rfl
theorem lockb0_c (k h t : ByteArray) (hk : k.size ≠ 32) : PCalls Cf 28 [(.str k), (.str h), (.str t)] [.str ⟨#[]⟩, .int .i64 2] := by
  refine pc (lockb0_r k h t) ?_ trivial rfl rfl
  simp only [Bool.and_true, Bool.and_eq_true, decide_eq_true_eq, Bool.not_not, Bool.not_eq_true', decide_eq_false_iff_not, true_and, and_true]
  omega
theorem lockb1_r (k h t : ByteArray) : runV Cf 9 28 [(.str k), (.str h), (.str t)] [] [.inl, .yes, .yes, .yes, .no, .no, .no, .yes, .no, .no, .yes, .yes, .yes] = some ([(.str (⟨#[]⟩ : ByteArray)), (.int .i64 2)], [], [], (((((((!(!(decide ((k.size : Int) = 32)))) && ((!(!(decide ((k.size : Int) = 32)))) && ((!(!(decide ((k.size : Int) = 32)))) && ((!(!(decide ((k.size : Int) = 32)))) && ((decide ((1024 : Int) < (h.size : Int))) && ((decide ((1024 : Int) < (h.size : Int))) && ((decide ((1024 : Int) < (h.size : Int))) && true))))))) && true) && true) && true) && true) && true), []) := by kernel_rfl
theorem lockb1_c (k h t : ByteArray) (hk : k.size = 32) (hh : 1024 < h.size) : PCalls Cf 28 [(.str k), (.str h), (.str t)] [.str ⟨#[]⟩, .int .i64 2] := by
  refine pc (lockb1_r k h t) ?_ trivial rfl rfl
  simp only [Bool.and_true, Bool.and_eq_true, decide_eq_true_eq, Bool.not_not, Bool.not_eq_true', decide_eq_false_iff_not, true_and, and_true]
  omega
theorem lockb2_r (k h t : ByteArray) : runV Cf 9 28 [(.str k), (.str h), (.str t)] [] [.inl, .yes, .yes, .yes, .no, .yes, .yes, .no, .yes, .yes, .no, .yes, .yes] = some ([(.str (⟨#[]⟩ : ByteArray)), (.int .i64 2)], [], [], (((((((!(!(decide ((k.size : Int) = 32)))) && ((!(!(decide ((k.size : Int) = 32)))) && ((!(!(decide ((k.size : Int) = 32)))) && ((!(!(decide ((k.size : Int) = 32)))) && ((!(decide ((1024 : Int) < (h.size : Int)))) && ((!(decide ((1024 : Int) < (h.size : Int)))) && ((!(decide ((1024 : Int) < (h.size : Int)))) && ((!(decide ((t.size : Int) < 0))) && ((!(decide ((t.size : Int) < 0))) && ((!(decide ((t.size : Int) < 0))) && true)))))))))) && ((decide ((1024 : Int) < (t.size : Int))) && true)) && true) && true) && true) && true), []) := by kernel_rfl
theorem lockb2_c (k h t : ByteArray) (hk : k.size = 32) (hh : h.size ≤ 1024) (ht : 1024 < t.size) : PCalls Cf 28 [(.str k), (.str h), (.str t)] [.str ⟨#[]⟩, .int .i64 2] := by
  refine pc (lockb2_r k h t) ?_ trivial rfl rfl
  simp only [Bool.and_true, Bool.and_eq_true, decide_eq_true_eq, Bool.not_not, Bool.not_eq_true', decide_eq_false_iff_not, true_and, and_true]
  omega
#print axioms xor_c
#print axioms keys_c
#print axioms lock_c
#print axioms again_c
#print axioms open_c
#print axioms lockb2_c
end Go.Proofs.YtcpeljfjgbjnjaaDoor
