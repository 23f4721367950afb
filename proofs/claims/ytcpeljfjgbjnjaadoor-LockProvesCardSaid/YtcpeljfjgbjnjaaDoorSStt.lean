/- ChaCha20: streams. (Printed by gen_str.py) -/
import Derived.Test.YtcpeljfjgbjnjaaDoorSStr
set_option linter.unusedSimpArgs false
namespace Go.Proofs.YtcpeljfjgbjnjaaDoor
open Go Go.Vi
attribute [local irreducible] PCalls GCalls LoopOk RoundOk
theorem st_0 (k c : ByteArray) (m : Nat) : roundV Cf 9 168 [0, 1, 0, 1, 1, 1] 0 0 [0, 1, 2, 9, 10] (tmOf 31 [(0, (.str k)), (1, (.str c)), (2, (.int .i64 (m : Int))), (9, (.ref 0 0)), (10, (.int .u32 1))]) [(.box [.nilptr, (.sl 1 [] true true)] 111)] [.inl, .yes, .call [(.str (blockF k 1 c))], .inl, .inl, .yes, .keep [(.ref 0 0)] [(.box [.nilptr, (.sl 1 [] true true)] 111)], .own] = some (.normal, (tmOf 31 [(0, (.str k)), (1, (.str c)), (2, (.int .i64 (m : Int))), (9, (.ref 0 0)), (10, (.int .u32 2))]), [(.box [(.ref 0 0), (.own 1 0 (0 + (bytesV (blockF k 1 c)).length) false)] 111), (.arr 1 (bytesV (blockF k 1 c)) 5)], [], (((decide ((0 : Int) < (m : Int))) && true) && (((((((decide ((0 : Nat) < (bytesV (blockF k 1 c)).length)) && (decide ((0 + (bytesV (blockF k 1 c)).length) ≤ 1073741824))) && true) && true) && true) && true) && true)), [PCalls Cf 208 [(.str k), (.int .u32 1), (.str c)] [(.str (blockF k 1 c))], GCalls Cf 173 [(.ref 0 0)] [(.box [.nilptr, (.sl 1 [] true true)] 111)] [(.ref 0 0)] [(.box [.nilptr, (.sl 1 [] true true)] 111)]]) := by kernel_rfl
theorem st_k (k c : ByteArray) (m : Nat) (s : ByteArray) (j : Nat) : roundV Cf 9 168 [0, 1, 0, 1, 1, 1] 0 0 [0, 1, 2, 9, 10] (tmOf 31 [(0, (.str k)), (1, (.str c)), (2, (.int .i64 (m : Int))), (9, (.ref 0 0)), (10, (.int .u32 (j : Int)))]) [(.box [(.ref 0 0), (.own 1 0 s.size false)] 111), (.arr 1 (bytesV s) 5)] [.inl, .yes, .call [(.str (blockF k (j : Int) c))], .inl, .inl, .no, .no] = some (.normal, (tmOf 31 [(0, (.str k)), (1, (.str c)), (2, (.int .i64 (m : Int))), (9, (.ref 0 0)), (10, (.int .u32 (IntKind.u32.wrap ((j : Int) + 1))))]), [(.box [(.ref 0 0), (.own 1 0 (s.size + (bytesV (blockF k (j : Int) c)).length) false)] 111), (.arr 1 ((bytesV s) ++ (bytesV (blockF k (j : Int) c))) 5)], [], (((decide ((s.size : Int) < (m : Int))) && true) && (((((((decide (s.size = (bytesV s).length)) && (decide (((bytesV s).length + (bytesV (blockF k (j : Int) c)).length) ≤ 1073741824))) && true) && true) && true) && true) && true)), [PCalls Cf 208 [(.str k), (.int .u32 (j : Int)), (.str c)] [(.str (blockF k (j : Int) c))]]) := by kernel_rfl
theorem st_x (k c : ByteArray) (m : Nat) (s : ByteArray) (j : Nat) : roundV Cf 9 168 [0, 1, 0, 1, 1, 1] 0 0 [0, 1, 2, 9, 10] (tmOf 31 [(0, (.str k)), (1, (.str c)), (2, (.int .i64 (m : Int))), (9, (.ref 0 0)), (10, (.int .u32 (j : Int)))]) [(.box [(.ref 0 0), (.own 1 0 s.size false)] 111), (.arr 1 (bytesV s) 5)] [.inl, .no] = some ((.exit 0), (tmOf 31 [(0, (.str k)), (1, (.str c)), (2, (.int .i64 (m : Int))), (9, (.ref 0 0)), (10, (.int .u32 (j : Int))), (18, (.int .i64 (s.size : Int))), (19, (.int .i64 (m : Int))), (20, (.bool (decide ((s.size : Int) < (m : Int)))))]), [(.box [(.ref 0 0), (.own 1 0 s.size false)] 111), (.arr 1 (bytesV s) 5)], [], ((!(decide ((s.size : Int) < (m : Int)))) && true), []) := by kernel_rfl
/-- so many blocks and one more -/
def streamN (k c : ByteArray) : Nat → ByteArray
  | 0 => blockF k 1 c
  | j + 1 => streamN k c j ++ blockF k ((j + 2 : Nat) : Int) c
theorem streamN_size (k c : ByteArray) : ∀ j, (streamN k c j).size = 64 * (j + 1)
  | 0 => blockF_size _ _ _
  | j + 1 => by rw [streamN, ByteArray.size_append, streamN_size k c j, blockF_size]; omega
def streamF (k c : ByteArray) (m : Nat) : ByteArray := if m = 0 then ⟨#[]⟩ else (streamN k c ((m - 1) / 64)).extract 0 m
theorem streamF_size (k c : ByteArray) (m : Nat) : (streamF k c m).size = m := by
  unfold streamF
  split
  · rename_i h; rw [h]; rfl
  · rw [extract_size, streamN_size]
    omega
theorem st_lc (k c : ByteArray) (m : Nat) (hk : k.size = 32) (hc : c.size = 12) (h0 : 0 < m) (hm : m ≤ 4096) : LoopOk Cf 168 [0, 1, 0, 1, 1, 1] 0 (tmOf 31 [(0, (.str k)), (1, (.str c)), (2, (.int .i64 (m : Int))), (6, (.str (⟨#[]⟩ : ByteArray))), (7, (.int .i64 0)), (8, (.int .i64 0)), (9, (.ref 0 0)), (10, (.int .u32 1)), (11, (.str k)), (12, (.str c)), (13, (.int .i64 (m : Int))), (14, (.int .i64 0)), (15, (.int .i64 0)), (16, (.bool false))]) [(.box [.nilptr, (.sl 1 [] true true)] 111)] (.exit 0) (tmOf 31 [(0, (.str k)), (1, (.str c)), (2, (.int .i64 (m : Int))), (9, (.ref 0 0)), (10, (.int .u32 (((m - 1) / 64 + 2 : Nat) : Int))), (18, (.int .i64 ((streamN k c ((m - 1) / 64)).size : Int))), (19, (.int .i64 (m : Int))), (20, (.bool (decide (((streamN k c ((m - 1) / 64)).size : Int) < (m : Int)))))]) [(.box [(.ref 0 0), (.own 1 0 (streamN k c ((m - 1) / 64)).size false)] 111), (.arr 1 (bytesV (streamN k c ((m - 1) / 64))) 5)] := by
  refine lp [0, 1, 2, 9, 10] (by simp) ((m - 1) / 64 + 1) (fun | 0 => ⟨(tmOf 31 [(0, (.str k)), (1, (.str c)), (2, (.int .i64 (m : Int))), (9, (.ref 0 0)), (10, (.int .u32 1))]), [(.box [.nilptr, (.sl 1 [] true true)] 111)]⟩ | j + 1 => ⟨(tmOf 31 [(0, (.str k)), (1, (.str c)), (2, (.int .i64 (m : Int))), (9, (.ref 0 0)), (10, (.int .u32 ((j + 2 : Nat) : Int)))]), [(.box [(.ref 0 0), (.own 1 0 (streamN k c j).size false)] 111), (.arr 1 (bytesV (streamN k c j)) 5)]⟩) (by kernel_rfl) (fun j hj => ?_) ?_
  · cases j with
    | zero =>
      have h := st_0 k c m
      have hs := blockF_size k 1 c
      rw [bytesV_len, Nat.zero_add] at h
      refine rd h ?_ ⟨block_c k 1 c hk hc, noescape_c _ _ _, trivial⟩
      rw [hs]
      simp only [Bool.and_true, Bool.and_eq_true, decide_eq_true_eq]
      omega
    | succ j =>
      have h := st_k k c m (streamN k c j) (j + 2)
      have hs := streamN_size k c j
      have hb := blockF_size k ((j + 2 : Nat) : Int) c
      rw [bytesV_append, bytesV_len, bytesV_len, ← ByteArray.size_append, IntWalk.u32_in (((j + 2 : Nat) : Int) + 1) (by omega), show ((j + 2 : Nat) : Int) + 1 = ((j + 1 + 2 : Nat) : Int) by omega] at h
      refine rd h ?_ ⟨block_c k _ c hk hc, trivial⟩
      simp only [ByteArray.size_append, hs, hb, Bool.and_true, Bool.and_eq_true, decide_eq_true_eq, true_and, and_true]
      omega
  · refine rd (st_x k c m (streamN k c ((m - 1) / 64)) ((m - 1) / 64 + 2)) ?_ trivial
    rw [streamN_size]
    simp only [Bool.and_true, Bool.not_eq_true', decide_eq_false_iff_not]
    omega
theorem stream_r (k c : ByteArray) (m : Nat) : runV Cf 9 168 [(.str k), (.str c), (.int .i64 (m : Int))] [] [.inl, .yes, .yes, .yes, .no, .yes, .yes, .no, .yes, .yes, .no, .no, .no, .loop (.exit 0) (tmOf 31 [(0, (.str k)), (1, (.str c)), (2, (.int .i64 (m : Int))), (9, (.ref 0 0)), (10, (.int .u32 (((m - 1) / 64 + 2 : Nat) : Int))), (18, (.int .i64 ((streamN k c ((m - 1) / 64)).size : Int))), (19, (.int .i64 (m : Int))), (20, (.bool (decide (((streamN k c ((m - 1) / 64)).size : Int) < (m : Int)))))]) [(.box [(.ref 0 0), (.own 1 0 (streamN k c ((m - 1) / 64)).size false)] 111), (.arr 1 (bytesV (streamN k c ((m - 1) / 64))) 5)], .inl] = some ([(.str ((bytesOfL ((bytesV (streamN k c ((m - 1) / 64))).take (((streamN k c ((m - 1) / 64)).size : Int)).toNat)).extract 0 ((m : Int)).toNat)), (.int .i64 0)], [(.box [(.ref 0 0), (.own 1 0 (streamN k c ((m - 1) / 64)).size false)] 111), .dead], [], (((((((((!(!(decide ((k.size : Int) = 32)))) && ((!(!(decide ((k.size : Int) = 32)))) && ((!(!(decide ((k.size : Int) = 32)))) && ((!(!(decide ((k.size : Int) = 32)))) && ((!(!(decide ((c.size : Int) = 12)))) && ((!(!(decide ((c.size : Int) = 12)))) && ((!(!(decide ((c.size : Int) = 12)))) && ((!(decide ((m : Int) < 0))) && ((!(decide ((m : Int) < 0))) && ((!(decide ((m : Int) < 0))) && true)))))))))) && ((!(decide ((4096 : Int) < (m : Int)))) && true)) && true) && true) && true) && true) && ((((((decide ((0 : Nat) < (streamN k c ((m - 1) / 64)).size)) && (((decide ((0 : Int) < ((streamN k c ((m - 1) / 64)).size : Int))) && ((decide ((((streamN k c ((m - 1) / 64)).size : Int)).toNat ≤ (bytesV (streamN k c ((m - 1) / 64))).length)) && ((decide ((((streamN k c ((m - 1) / 64)).size : Int)).toNat ≤ 1073741824)) && (bytesIn ((bytesV (streamN k c ((m - 1) / 64))).take (((streamN k c ((m - 1) / 64)).size : Int)).toNat))))) && true)) && true) && true) && ((((decide ((0 : Int) ≤ (m : Int))) && (decide ((0 : Nat) ≤ ((m : Int)).toNat))) && (decide (((m : Int)).toNat ≤ (bytesOfL ((bytesV (streamN k c ((m - 1) / 64))).take (((streamN k c ((m - 1) / 64)).size : Int)).toNat)).size))) && true)) && true)) && true), [LoopOk Cf 168 [0, 1, 0, 1, 1, 1] 0 (tmOf 31 [(0, (.str k)), (1, (.str c)), (2, (.int .i64 (m : Int))), (6, (.str (⟨#[]⟩ : ByteArray))), (7, (.int .i64 0)), (8, (.int .i64 0)), (9, (.ref 0 0)), (10, (.int .u32 1)), (11, (.str k)), (12, (.str c)), (13, (.int .i64 (m : Int))), (14, (.int .i64 0)), (15, (.int .i64 0)), (16, (.bool false))]) [(.box [.nilptr, (.sl 1 [] true true)] 111)] (.exit 0) (tmOf 31 [(0, (.str k)), (1, (.str c)), (2, (.int .i64 (m : Int))), (9, (.ref 0 0)), (10, (.int .u32 (((m - 1) / 64 + 2 : Nat) : Int))), (18, (.int .i64 ((streamN k c ((m - 1) / 64)).size : Int))), (19, (.int .i64 (m : Int))), (20, (.bool (decide (((streamN k c ((m - 1) / 64)).size : Int) < (m : Int)))))]) [(.box [(.ref 0 0), (.own 1 0 (streamN k c ((m - 1) / 64)).size false)] 111), (.arr 1 (bytesV (streamN k c ((m - 1) / 64))) 5)]]) := by kernel_rfl
theorem stream0_r (k c : ByteArray) : runV Cf 9 168 [(.str k), (.str c), (.int .i64 0)] [] [.inl, .yes, .yes, .yes, .no, .yes, .yes, .no, .yes, .yes, .no, .no, .no, .inl, .no, .inl] = some ([(.str (⟨#[]⟩ : ByteArray)), (.int .i64 0)], [(.box [.nilptr, (.sl 1 [] true true)] 111)], [], (((((((((!(!(decide ((k.size : Int) = 32)))) && ((!(!(decide ((k.size : Int) = 32)))) && ((!(!(decide ((k.size : Int) = 32)))) && ((!(!(decide ((k.size : Int) = 32)))) && ((!(!(decide ((c.size : Int) = 12)))) && ((!(!(decide ((c.size : Int) = 12)))) && ((!(!(decide ((c.size : Int) = 12)))) && true))))))) && true) && true) && true) && true) && true) && true) && true), []) := by kernel_rfl
theorem stream_c (k c : ByteArray) (m : Nat) (hk : k.size = 32) (hc : c.size = 12) (hm : m ≤ 4096) : PCalls Cf 168 [(.str k), (.str c), (.int .i64 (m : Int))] [.str (streamF k c m), .int .i64 0] := by
  by_cases h0 : m = 0
  · subst h0
    refine pc (stream0_r k c) ?_ trivial rfl rfl
    simp only [hk, hc, Bool.and_true, Bool.and_eq_true, decide_eq_true_eq, Bool.not_not]
    omega
  · have h := stream_r k c m
    have hs := streamN_size k c ((m - 1) / 64)
    rw [Int.toNat_natCast, Int.toNat_natCast, bytesV_take, bytesOfL_bytesV] at h
    refine pc h ?_ ⟨st_lc k c m hk hc (by omega) hm, trivial⟩ (by unfold streamF; rw [if_neg h0]; rfl) rfl
    rw [bytesIn_bytesV, bytesV_len, hs]
    simp only [hk, hc, Bool.and_true, Bool.and_eq_true, decide_eq_true_eq, Bool.not_not, Bool.not_eq_true', decide_eq_false_iff_not, true_and, and_true]
    omega
#print axioms stream_c
end Go.Proofs.YtcpeljfjgbjnjaaDoor
