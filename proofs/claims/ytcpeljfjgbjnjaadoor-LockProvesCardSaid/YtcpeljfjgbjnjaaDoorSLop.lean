/- The law LockProves: what it comes to. (Printed by gen_lop.py) -/
import Derived.Test.YtcpeljfjgbjnjaaDoorSLock
set_option linter.unusedSimpArgs false
set_option linter.unusedVariables false
namespace Go.Proofs.YtcpeljfjgbjnjaaDoor
open Go Go.Vi
attribute [local irreducible] PCalls GCalls LoopOk RoundOk
theorem bytesOfL_nums (l : List Int) (h : ∀ x, x ∈ l → 0 ≤ x ∧ x < 256) : nums (bytesOfL (ints .u8 l)) = l := by
  unfold nums bytesOfL ints
  rw [List.map_map, List.map_map]
  have : ∀ x, x ∈ l → ((fun b : UInt8 => (b.toNat : Int)) ∘ (byteOfV ∘ V.int .u8)) x = x := by
    intro x hx
    have := h x hx
    show ((x.toNat.toUInt8.toNat : Nat) : Int) = x
    have e : x.toNat.toUInt8.toNat = x.toNat := by
      rw [Nat.toUInt8_eq, UInt8.toNat_ofNat']
      exact Nat.mod_eq_of_lt (by omega)
    rw [e]
    omega
  exact (List.map_congr_left this).trans (List.map_id _)
theorem nums_in (s : ByteArray) : ∀ x, x ∈ nums s → 0 ≤ x ∧ x < 256 := by
  intro x hx
  obtain ⟨b, _, rfl⟩ := List.mem_map.1 hx
  have := b.toNat_lt
  omega
theorem eq_of_nums {a b : ByteArray} (h : nums a = nums b) : a = b := by
  rw [← bytesOfL_bytesV a, ← bytesOfL_bytesV b, bytesV_nums, bytesV_nums, h]
theorem xorI_u8 (x y : Int) : xorI .u8 x y = ((BitVec.ofInt 8 x ^^^ BitVec.ofInt 8 y).toNat : Int) := by
  show IntKind.u8.wrap ((BitVec.ofInt 8 x ^^^ BitVec.ofInt 8 y).toNat : Int) = _
  have := (BitVec.ofInt 8 x ^^^ BitVec.ofInt 8 y).isLt
  exact IntWalk.u8_in _ (by omega)
theorem xorI_in (x y : Int) : 0 ≤ xorI .u8 x y ∧ xorI .u8 x y < 256 := by
  rw [xorI_u8]
  have := (BitVec.ofInt 8 x ^^^ BitVec.ofInt 8 y).isLt
  omega
theorem xor_swap (x y z : Int) : xorI .u8 (xorI .u8 x y) z = xorI .u8 (xorI .u8 x z) y := by
  rw [xorI_u8 x y, xorI_u8 x z, xorI_u8, xorI_u8, BitVec.ofInt_natCast, BitVec.ofInt_natCast, BitVec.ofNat_toNat, BitVec.ofNat_toNat, BitVec.setWidth_eq, BitVec.setWidth_eq, BitVec.xor_assoc, BitVec.xor_assoc, BitVec.xor_comm (BitVec.ofInt 8 y)]
theorem xor_twice (x y : Int) (h : 0 ≤ x ∧ x < 256) : xorI .u8 (xorI .u8 x y) y = x := by
  rw [xorI_u8 x y, xorI_u8, BitVec.ofInt_natCast, BitVec.ofNat_toNat, BitVec.setWidth_eq, BitVec.xor_assoc, BitVec.xor_self, BitVec.xor_zero, BitVec.toNat_ofInt]
  omega
theorem xorF_nums (k c s : ByteArray) : nums (xorF k c s) = xorN k c s s.size := by
  unfold xorF
  refine bytesOfL_nums _ fun x hx => ?_
  obtain ⟨j, hj, rfl⟩ := List.mem_iff_getElem.1 hx
  have hl := xorN_len k c s s.size
  have hg := updN_getD (fun i x => xorI .u8 x (byteAt (streamF k c s.size) i)) (nums s) j (by rw [nums_len]; omega) s.size
  have e : (xorN k c s s.size).getD j 0 = (xorN k c s s.size)[j] := by simp [List.getD_eq_getElem?_getD, hj]
  rw [← e]
  unfold xorN
  rw [hg, if_pos (by omega)]
  exact xorI_in _ _
theorem xorF_at (k c s : ByteArray) (j : Nat) (hj : j < s.size) : (nums (xorF k c s)).getD j 0 = xorI .u8 ((nums s).getD j 0) (byteAt (streamF k c s.size) j) := by
  rw [xorF_nums]
  unfold xorN
  rw [updN_getD _ _ j (by rw [nums_len]; omega) s.size, if_pos hj]
theorem list_ext {a b : List Int} (hl : a.length = b.length) (h : ∀ j, j < a.length → a.getD j 0 = b.getD j 0) : a = b := by
  apply List.ext_getElem hl
  intro j h1 h2
  have := h j h1
  simpa [List.getD_eq_getElem?_getD, h1, h2] using this
theorem nums_getD_in (s : ByteArray) (j : Nat) (hj : j < s.size) : 0 ≤ (nums s).getD j 0 ∧ (nums s).getD j 0 < 256 := by
  have hl := nums_len s
  have e : (nums s).getD j 0 = (nums s)[j]'(by omega) := by simp [List.getD_eq_getElem?_getD, hl, hj]
  rw [e]
  exact nums_in s _ (List.getElem_mem _)
theorem turn_turn (k t : ByteArray) : turnF k (turnF k t) = t := by
  apply eq_of_nums
  have h1 := turnF_size k t
  have h2 := turnF_size k (turnF k t)
  refine list_ext (by rw [nums_len, nums_len]; omega) fun j hj => ?_
  rw [nums_len] at hj
  unfold turnF at *
  rw [xorF_at _ _ _ j (by omega), xorF_at _ _ _ j (by omega), h1, xor_twice _ _ (nums_getD_in t j (by omega))]
/-- a text with one byte xor another -/
def flipB (s : ByteArray) (i : Nat) (y : Int) : ByteArray := bytesOfL (ints .u8 ((nums s).set i (xorI .u8 ((nums s).getD i 0) y)))
theorem flip_nums (s : ByteArray) (i : Nat) (y : Int) : nums (flipB s i y) = (nums s).set i (xorI .u8 ((nums s).getD i 0) y) := by
  refine bytesOfL_nums _ fun x hx => ?_
  rcases List.mem_or_eq_of_mem_set hx with h | rfl
  · exact nums_in s x h
  · exact xorI_in _ _
theorem flip_size (s : ByteArray) (i : Nat) (y : Int) : (flipB s i y).size = s.size := by rw [← nums_len, flip_nums, List.length_set, nums_len]
theorem flip_at (s : ByteArray) (i : Nat) (y : Int) (j : Nat) (hj : j < s.size) : (nums (flipB s i y)).getD j 0 = if j = i then xorI .u8 ((nums s).getD j 0) y else (nums s).getD j 0 := by
  rw [flip_nums]
  have hl := nums_len s
  by_cases h : j = i
  · subst h
    rw [if_pos rfl, List.getD_eq_getElem?_getD, List.getElem?_set_self (by omega)]
    rfl
  · rw [if_neg h, List.getD_eq_getElem?_getD, List.getElem?_set_ne (fun e => h e.symm), ← List.getD_eq_getElem?_getD]
theorem turn_flip (k t : ByteArray) (i : Nat) (y : Int) : turnF k (flipB (turnF k t) i y) = flipB t i y := by
  apply eq_of_nums
  have h1 := turnF_size k t
  have h2 := flip_size (turnF k t) i y
  have h3 := flip_size t i y
  have h4 := turnF_size k (flipB (turnF k t) i y)
  refine list_ext (by rw [nums_len, nums_len]; omega) fun j hj => ?_
  rw [nums_len] at hj
  rw [flip_at _ _ _ _ (by omega)]
  unfold turnF at *
  rw [xorF_at _ _ _ j (by omega), flip_at _ _ _ _ (by omega), xorF_at _ _ _ j (by omega), h2, h1]
  split
  · rw [xor_swap, xor_twice _ _ (nums_getD_in t j (by omega))]
  · rw [xor_twice _ _ (nums_getD_in t j (by omega))]
def keyT : ByteArray := ⟨#[48, 49, 50, 51, 52, 53, 54, 55, 56, 57, 97, 98, 99, 100, 101, 102, 48, 49, 50, 51, 52, 53, 54, 55, 56, 57, 97, 98, 99, 100, 101, 102]⟩
def hT : ByteArray := ⟨#[104]⟩
def hiT : ByteArray := ⟨#[104, 105]⟩
theorem alive_r  : runV Cf 9 18 [] [] [.call [(.str (lockF keyT hT hiT)), (.int .i64 0)], .call [(.str (turnF keyT (turnF keyT hiT))), (.int .i64 0)], .yes, .yes, .yes, .yes, .yes, .yes, .yes, .yes, .yes, .yes] = some ([(.bool (decide ((turnF keyT (turnF keyT hiT)) = hiT)))], [], [], ((((decide (((lockF keyT hT hiT).size : Int) = 34)) && ((decide (((lockF keyT hT hiT).size : Int) = 34)) && ((decide (((lockF keyT hT hiT).size : Int) = 34)) && true))) && true) && true), [PCalls Cf 28 [(.str keyT), (.str hT), (.str hiT)] [(.str (lockF keyT hT hiT)), (.int .i64 0)], PCalls Cf 16 [(.str keyT), (.str hT), (.str (lockF keyT hT hiT))] [(.str (turnF keyT (turnF keyT hiT))), (.int .i64 0)]]) := by kernel_rfl
theorem lockF_size (k h t : ByteArray) : (lockF k h t).size = t.size + 32 := by
  unfold lockF
  rw [taggedF_size, turnF_size]
theorem alive_c : PCalls Cf 18 [] [.bool true] := by
  have h := alive_r
  have s1 := lockF_size keyT hT hiT
  have s2 : hiT.size = 2 := rfl
  have s0 : keyT.size = 32 := rfl
  have s3 : hT.size = 1 := rfl
  have ho := open_c keyT hT (turnF keyT hiT) s0 (by omega) (by rw [turnF_size]; omega)
  rw [turn_turn] at ho
  have e : decide (hiT = hiT) = true := decide_eq_true rfl
  rw [turn_turn, e] at h
  refine pc h ?_ ⟨lock_c keyT hT hiT s0 (by omega) (by omega), ho, trivial⟩ rfl rfl
  rw [s1, s2]
  rfl
theorem cut0_r (s : ByteArray) (m : Int) : runV Cf 9 15 [(.str s), (.int .i64 m)] [] [.yes] = some ([(.str s)], [], [], (((decide ((1000 : Int) < (s.size : Int))) && true) && true), []) := by kernel_rfl
theorem cut1_r (s : ByteArray) (m : Int) : runV Cf 9 15 [(.str s), (.int .i64 m)] [] [.no] = some ([(.str (s.extract 0 ((if m < (s.size : Int) then m else (s.size : Int))).toNat))], [], [], ((((!(decide ((1000 : Int) < (s.size : Int)))) && true) && (((((decide ((0 : Int) ≤ (if m < (s.size : Int) then m else (s.size : Int)))) && (decide ((0 : Nat) ≤ ((if m < (s.size : Int) then m else (s.size : Int))).toNat))) && (decide (((if m < (s.size : Int) then m else (s.size : Int))).toNat ≤ s.size))) && true) && true)) && true), []) := by kernel_rfl
def cutF (s : ByteArray) (m : Int) : ByteArray := if 1000 < s.size then s else s.extract 0 (if m < (s.size : Int) then m else (s.size : Int)).toNat
theorem cut_c (s : ByteArray) (m : Int) (h0 : 0 ≤ m) : PCalls Cf 15 [.str s, .int .i64 m] [.str (cutF s m)] := by
  by_cases h : 1000 < s.size
  · refine pc (cut0_r s m) ?_ trivial (by unfold cutF; rw [if_pos h]; rfl) rfl
    simp only [Bool.and_true, Bool.and_eq_true, decide_eq_true_eq]
    omega
  · refine pc (cut1_r s m) ?_ trivial (by unfold cutF; rw [if_neg h]; rfl) rfl
    simp only [Bool.and_true, Bool.and_eq_true, decide_eq_true_eq, Bool.not_eq_true', decide_eq_false_iff_not]
    split <;> omega
def cutK (k : ByteArray) : ByteArray := (k.extract 0 ((if (40 : Int) < (k.size : Int) then 40 else (k.size : Int))).toNat)
def idxI (a : Int) (n : Nat) : Int := (Int.tmod (IntKind.i64.wrap ((Int.tmod a (n : Int)) + (n : Int))) (n : Int))
theorem lp_e (k h t H T Z Y U K1 K2 K3 : ByteArray) (a y : Int) : runV Cf 9 6 [(.str k), (.str h), (.str t), (.int .i64 a), (.int .u8 y)] [] [.call [(.str H)], .call [(.str T)], .call [(.str Z), (.int .i64 0)], .no, .call [(.str T), (.int .i64 0)], .call [(.str K1), (.str K2), (.str K3), (.int .i64 0)], .yes, .yes, .no, .yes, .yes, .yes, .no, .yes, .yes, .yes, .yes, .yes, .yes, .no, .yes, .call [(.bool true)], .yes, .no, .no, .yes] = some ([(.bool true)], [], [], ((((((decide ((0 : Int) ≤ (if (40 : Int) < (k.size : Int) then 40 else (k.size : Int)))) && (decide ((0 : Nat) ≤ ((if (40 : Int) < (k.size : Int) then 40 else (k.size : Int))).toNat))) && (decide (((if (40 : Int) < (k.size : Int) then 40 else (k.size : Int))).toNat ≤ k.size))) && true) && ((((!(!(decide (T = T)))) && ((!(!(decide (T = T)))) && ((!(!(decide (T = T)))) && ((!(!(decide (T = T)))) && ((!(!(decide (T = T)))) && ((!(!(decide (T = T)))) && ((!(!(decide (T = T)))) && ((!(!(decide ((Z.size : Int) = (IntKind.i64.wrap ((T.size : Int) + 32)))))) && ((!(!(decide ((Z.size : Int) = (IntKind.i64.wrap ((T.size : Int) + 32)))))) && ((!(!(decide ((Z.size : Int) = (IntKind.i64.wrap ((T.size : Int) + 32)))))) && true)))))))))) && true) && ((decide ((T.size : Int) = 0)) && true))) && true), [PCalls Cf 15 [(.str h), (.int .i64 60)] [(.str H)], PCalls Cf 15 [(.str t), (.int .i64 100)] [(.str T)], PCalls Cf 28 [(.str (cutK k)), (.str H), (.str T)] [(.str Z), (.int .i64 0)], PCalls Cf 16 [(.str (cutK k)), (.str H), (.str Z)] [(.str T), (.int .i64 0)], PCalls Cf 27 [(.str (cutK k))] [(.str K1), (.str K2), (.str K3), (.int .i64 0)], PCalls Cf 18 [] [(.bool true)]]) := by kernel_rfl
theorem lp_r (k h t H T Z Y U K1 K2 K3 : ByteArray) (a y : Int) : runV Cf 9 6 [(.str k), (.str h), (.str t), (.int .i64 a), (.int .u8 y)] [] [.call [(.str H)], .call [(.str T)], .call [(.str Z), (.int .i64 0)], .no, .call [(.str T), (.int .i64 0)], .call [(.str K1), (.str K2), (.str K3), (.int .i64 0)], .yes, .yes, .no, .yes, .yes, .yes, .no, .yes, .yes, .yes, .yes, .yes, .yes, .no, .yes, .call [(.bool true)], .yes, .no, .no, .no, .masks [[], [], [0], [0], [], [], [], [], [], [], [], [], [], [], [0], [0]], .call [(.str Y), (.int .i64 0)], .call [(.str U), (.int .i64 0)], .yes, .yes, .yes, .yes, .yes, .yes, .yes, .yes] = some ([(.bool (decide (U = (bytesOfL ((((bytesV T).set (((0 + ((idxI a T.size)).toNat) * 1) / 1) (remake ((bytesV T).getD (((0 + ((idxI a T.size)).toNat) * 1) / 1) .undef) (splice ((bytesV T).getD (((0 + ((idxI a T.size)).toNat) * 1) / 1) .undef).cells (((0 + ((idxI a T.size)).toNat) * 1) % 1) [(.int .u8 (xorI .u8 (V.asInt ((((bytesV T).getD (((0 + ((idxI a T.size)).toNat) * 1) / 1) .undef).cells.drop (((0 + ((idxI a T.size)).toNat) * 1) % 1)).headD .undef)) y))]))).drop 0).take T.size)))))], [(.arr 1 ((bytesV (Z.extract 0 ((T.size : Int)).toNat)).set (((0 + ((idxI a T.size)).toNat) * 1) / 1) (remake ((bytesV (Z.extract 0 ((T.size : Int)).toNat)).getD (((0 + ((idxI a T.size)).toNat) * 1) / 1) .undef) (splice ((bytesV (Z.extract 0 ((T.size : Int)).toNat)).getD (((0 + ((idxI a T.size)).toNat) * 1) / 1) .undef).cells (((0 + ((idxI a T.size)).toNat) * 1) % 1) [(.int .u8 (xorI .u8 (V.asInt ((((bytesV (Z.extract 0 ((T.size : Int)).toNat)).getD (((0 + ((idxI a T.size)).toNat) * 1) / 1) .undef).cells.drop (((0 + ((idxI a T.size)).toNat) * 1) % 1)).headD .undef)) y))]))) 5), (.arr 1 ((bytesV T).set (((0 + ((idxI a T.size)).toNat) * 1) / 1) (remake ((bytesV T).getD (((0 + ((idxI a T.size)).toNat) * 1) / 1) .undef) (splice ((bytesV T).getD (((0 + ((idxI a T.size)).toNat) * 1) / 1) .undef).cells (((0 + ((idxI a T.size)).toNat) * 1) % 1) [(.int .u8 (xorI .u8 (V.asInt ((((bytesV T).getD (((0 + ((idxI a T.size)).toNat) * 1) / 1) .undef).cells.drop (((0 + ((idxI a T.size)).toNat) * 1) % 1)).headD .undef)) y))]))) 5)], [], ((((((decide ((0 : Int) ≤ (if (40 : Int) < (k.size : Int) then 40 else (k.size : Int)))) && (decide ((0 : Nat) ≤ ((if (40 : Int) < (k.size : Int) then 40 else (k.size : Int))).toNat))) && (decide (((if (40 : Int) < (k.size : Int) then 40 else (k.size : Int))).toNat ≤ k.size))) && true) && ((((!(!(decide (T = T)))) && ((!(!(decide (T = T)))) && ((!(!(decide (T = T)))) && ((!(!(decide (T = T)))) && ((!(!(decide (T = T)))) && ((!(!(decide (T = T)))) && ((!(!(decide (T = T)))) && ((!(!(decide ((Z.size : Int) = (IntKind.i64.wrap ((T.size : Int) + 32)))))) && ((!(!(decide ((Z.size : Int) = (IntKind.i64.wrap ((T.size : Int) + 32)))))) && ((!(!(decide ((Z.size : Int) = (IntKind.i64.wrap ((T.size : Int) + 32)))))) && true)))))))))) && true) && (((!(decide ((T.size : Int) = 0))) && true) && (((!(decide ((T.size : Int) = 0))) && ((!(decide ((T.size : Int) = 0))) && true)) && (((((decide ((0 : Int) ≤ (T.size : Int))) && (decide ((0 : Nat) ≤ ((T.size : Int)).toNat))) && (decide (((T.size : Int)).toNat ≤ Z.size))) && true) && (((((decide ((0 : Int) ≤ (idxI a T.size))) && (decide (((idxI a T.size)).toNat < (Z.extract 0 ((T.size : Int)).toNat).size))) && true) && (((((decide ((((0 + ((idxI a T.size)).toNat) * 1) / 1) < (bytesV (Z.extract 0 ((T.size : Int)).toNat)).length)) && (decide (((((0 + ((idxI a T.size)).toNat) * 1) % 1) + 1) ≤ 1))) && true) && (((decide ((0 : Nat) < (((bytesV (Z.extract 0 ((T.size : Int)).toNat)).getD (((0 + ((idxI a T.size)).toNat) * 1) / 1) .undef).cells.drop (((0 + ((idxI a T.size)).toNat) * 1) % 1)).length)) && (shapeOk (.int .u8) ((((bytesV (Z.extract 0 ((T.size : Int)).toNat)).getD (((0 + ((idxI a T.size)).toNat) * 1) / 1) .undef).cells.drop (((0 + ((idxI a T.size)).toNat) * 1) % 1)).headD .undef))) && true)) && ((((decide ((0 : Int) ≤ (idxI a T.size))) && (decide (((idxI a T.size)).toNat < T.size))) && true) && (((((decide ((((0 + ((idxI a T.size)).toNat) * 1) / 1) < (bytesV T).length)) && (decide (((((0 + ((idxI a T.size)).toNat) * 1) % 1) + 1) ≤ 1))) && true) && (((decide ((0 : Nat) < (((bytesV T).getD (((0 + ((idxI a T.size)).toNat) * 1) / 1) .undef).cells.drop (((0 + ((idxI a T.size)).toNat) * 1) % 1)).length)) && (shapeOk (.int .u8) ((((bytesV T).getD (((0 + ((idxI a T.size)).toNat) * 1) / 1) .undef).cells.drop (((0 + ((idxI a T.size)).toNat) * 1) % 1)).headD .undef))) && true)) && ((((decide ((0 : Int) ≤ (idxI a T.size))) && (decide (((idxI a T.size)).toNat < (Z.extract 0 ((T.size : Int)).toNat).size))) && true) && (((decide ((((0 + ((idxI a T.size)).toNat) * 1) / 1) < (bytesV (Z.extract 0 ((T.size : Int)).toNat)).length)) && (decide (((((0 + ((idxI a T.size)).toNat) * 1) % 1) + 1) ≤ 1))) && ((((decide ((0 : Int) ≤ (idxI a T.size))) && (decide (((idxI a T.size)).toNat < T.size))) && true) && (((decide ((((0 + ((idxI a T.size)).toNat) * 1) / 1) < (bytesV T).length)) && (decide (((((0 + ((idxI a T.size)).toNat) * 1) % 1) + 1) ≤ 1))) && true)))))))) && ((((decide ((0 + (Z.extract 0 ((T.size : Int)).toNat).size) ≤ ((bytesV (Z.extract 0 ((T.size : Int)).toNat)).set (((0 + ((idxI a T.size)).toNat) * 1) / 1) (remake ((bytesV (Z.extract 0 ((T.size : Int)).toNat)).getD (((0 + ((idxI a T.size)).toNat) * 1) / 1) .undef) (splice ((bytesV (Z.extract 0 ((T.size : Int)).toNat)).getD (((0 + ((idxI a T.size)).toNat) * 1) / 1) .undef).cells (((0 + ((idxI a T.size)).toNat) * 1) % 1) [(.int .u8 (xorI .u8 (V.asInt ((((bytesV (Z.extract 0 ((T.size : Int)).toNat)).getD (((0 + ((idxI a T.size)).toNat) * 1) / 1) .undef).cells.drop (((0 + ((idxI a T.size)).toNat) * 1) % 1)).headD .undef)) y))]))).length)) && (bytesOk ((((bytesV (Z.extract 0 ((T.size : Int)).toNat)).set (((0 + ((idxI a T.size)).toNat) * 1) / 1) (remake ((bytesV (Z.extract 0 ((T.size : Int)).toNat)).getD (((0 + ((idxI a T.size)).toNat) * 1) / 1) .undef) (splice ((bytesV (Z.extract 0 ((T.size : Int)).toNat)).getD (((0 + ((idxI a T.size)).toNat) * 1) / 1) .undef).cells (((0 + ((idxI a T.size)).toNat) * 1) % 1) [(.int .u8 (xorI .u8 (V.asInt ((((bytesV (Z.extract 0 ((T.size : Int)).toNat)).getD (((0 + ((idxI a T.size)).toNat) * 1) / 1) .undef).cells.drop (((0 + ((idxI a T.size)).toNat) * 1) % 1)).headD .undef)) y))]))).drop 0).take (Z.extract 0 ((T.size : Int)).toNat).size))) && true) && ((((decide ((0 + T.size) ≤ ((bytesV T).set (((0 + ((idxI a T.size)).toNat) * 1) / 1) (remake ((bytesV T).getD (((0 + ((idxI a T.size)).toNat) * 1) / 1) .undef) (splice ((bytesV T).getD (((0 + ((idxI a T.size)).toNat) * 1) / 1) .undef).cells (((0 + ((idxI a T.size)).toNat) * 1) % 1) [(.int .u8 (xorI .u8 (V.asInt ((((bytesV T).getD (((0 + ((idxI a T.size)).toNat) * 1) / 1) .undef).cells.drop (((0 + ((idxI a T.size)).toNat) * 1) % 1)).headD .undef)) y))]))).length)) && (bytesOk ((((bytesV T).set (((0 + ((idxI a T.size)).toNat) * 1) / 1) (remake ((bytesV T).getD (((0 + ((idxI a T.size)).toNat) * 1) / 1) .undef) (splice ((bytesV T).getD (((0 + ((idxI a T.size)).toNat) * 1) / 1) .undef).cells (((0 + ((idxI a T.size)).toNat) * 1) % 1) [(.int .u8 (xorI .u8 (V.asInt ((((bytesV T).getD (((0 + ((idxI a T.size)).toNat) * 1) / 1) .undef).cells.drop (((0 + ((idxI a T.size)).toNat) * 1) % 1)).headD .undef)) y))]))).drop 0).take T.size))) && true) && true)))))))) && true), [PCalls Cf 15 [(.str h), (.int .i64 60)] [(.str H)], PCalls Cf 15 [(.str t), (.int .i64 100)] [(.str T)], PCalls Cf 28 [(.str (cutK k)), (.str H), (.str T)] [(.str Z), (.int .i64 0)], PCalls Cf 16 [(.str (cutK k)), (.str H), (.str Z)] [(.str T), (.int .i64 0)], PCalls Cf 27 [(.str (cutK k))] [(.str K1), (.str K2), (.str K3), (.int .i64 0)], PCalls Cf 18 [] [(.bool true)], PCalls Cf 29 [(.str K2), (.str H), (.str (bytesOfL ((((bytesV (Z.extract 0 ((T.size : Int)).toNat)).set (((0 + ((idxI a T.size)).toNat) * 1) / 1) (remake ((bytesV (Z.extract 0 ((T.size : Int)).toNat)).getD (((0 + ((idxI a T.size)).toNat) * 1) / 1) .undef) (splice ((bytesV (Z.extract 0 ((T.size : Int)).toNat)).getD (((0 + ((idxI a T.size)).toNat) * 1) / 1) .undef).cells (((0 + ((idxI a T.size)).toNat) * 1) % 1) [(.int .u8 (xorI .u8 (V.asInt ((((bytesV (Z.extract 0 ((T.size : Int)).toNat)).getD (((0 + ((idxI a T.size)).toNat) * 1) / 1) .undef).cells.drop (((0 + ((idxI a T.size)).toNat) * 1) % 1)).headD .undef)) y))]))).drop 0).take (Z.extract 0 ((T.size : Int)).toNat).size)))] [(.str Y), (.int .i64 0)], PCalls Cf 16 [(.str (cutK k)), (.str H), (.str Y)] [(.str U), (.int .i64 0)]]) := by kernel_rfl
theorem lp_b (k h t H T Z Y U K1 K2 K3 : ByteArray) (a y : Int) : runV Cf 9 6 [(.str k), (.str h), (.str t), (.int .i64 a), (.int .u8 y)] [] [.call [(.str H)], .call [(.str T)], .call [(.str (⟨#[]⟩ : ByteArray)), (.int .i64 2)], .yes, .call [(.bool true)], .yes, .yes, .yes] = some ([(.bool true)], [], [], ((((((decide ((0 : Int) ≤ (if (40 : Int) < (k.size : Int) then 40 else (k.size : Int)))) && (decide ((0 : Nat) ≤ ((if (40 : Int) < (k.size : Int) then 40 else (k.size : Int))).toNat))) && (decide (((if (40 : Int) < (k.size : Int) then 40 else (k.size : Int))).toNat ≤ k.size))) && true) && true) && true), [PCalls Cf 15 [(.str h), (.int .i64 60)] [(.str H)], PCalls Cf 15 [(.str t), (.int .i64 100)] [(.str T)], PCalls Cf 28 [(.str (cutK k)), (.str H), (.str T)] [(.str (⟨#[]⟩ : ByteArray)), (.int .i64 2)], PCalls Cf 18 [] [(.bool true)]]) := by kernel_rfl
theorem cutK_ok (k : ByteArray) : (0 ≤ (if (40 : Int) < (k.size : Int) then 40 else (k.size : Int)) ∧ (if (40 : Int) < (k.size : Int) then 40 else (k.size : Int)).toNat ≤ k.size) := by
  split <;> omega
theorem idxI_ok (a : Int) (n : Nat) (h0 : 0 < n) (h1 : n ≤ 1048576) : 0 ≤ idxI a n ∧ (idxI a n).toNat < n := by
  have g1 := Int.tmod_lt_of_pos a (b := (n : Int)) (by omega)
  have g2 := Int.lt_tmod_of_pos a (b := (n : Int)) (by omega)
  unfold idxI
  rw [IntWalk.i64_in _ (by omega), tmod_nat _ _ (by omega)]
  have g3 := Int.emod_nonneg (Int.tmod a n + n) (b := (n : Int)) (by omega)
  have g4 := Int.emod_lt_of_pos (Int.tmod a n + n) (b := (n : Int)) (by omega)
  omega
theorem proves_c (k h t : ByteArray) (a y : Int) : PCalls Cf 6 [.str k, .str h, .str t, .int .i64 a, .int .u8 y] [.bool true] := by
  have c1 := cut_c h 60 (by omega)
  have c2 := cut_c t 100 (by omega)
  have ck := cutK_ok k
  generalize cutF h 60 = H at c1
  generalize cutF t 100 = T at c2
  generalize hK : cutK k = K
  have bad : PCalls Cf 28 [.str K, .str H, .str T] [.str ⟨#[]⟩, .int .i64 2] → PCalls Cf 6 [.str k, .str h, .str t, .int .i64 a, .int .u8 y] [.bool true] := by
    intro hb
    have r := lp_b k h t H T T T T T T T a y
    rw [hK] at r
    refine pc r ?_ ⟨c1, c2, hb, alive_c, trivial⟩ rfl rfl
    simp only [Bool.and_true, Bool.and_eq_true, decide_eq_true_eq]
    omega
  by_cases k1 : K.size = 32
  case neg => exact bad (lockb0_c K H T k1)
  by_cases k2 : H.size ≤ 1024
  case neg => exact bad (lockb1_c K H T k1 (by omega))
  by_cases k3 : T.size ≤ 1024
  case neg => exact bad (lockb2_c K H T k1 k2 (by omega))
  have sz := lockF_size K H T
  have sB := turnF_size K T
  have ho := open_c K H (turnF K T) k1 k2 (by omega)
  rw [turn_turn] at ho
  have e1 : decide (T = T) = true := decide_eq_true rfl
  by_cases k0 : T.size = 0
  · have r := lp_e k h t H T (lockF K H T) T T (hideF K) (tagKF K) (nonceF K) a y
    rw [hK, IntWalk.i64_in ((T.size : Int) + 32) (by omega), e1] at r
    refine pc r ?_ ⟨c1, c2, lock_c K H T k1 k2 k3, ho, keys_c K k1, alive_c, trivial⟩ rfl rfl
    simp only [Bool.and_true, Bool.and_eq_true, decide_eq_true_eq, Bool.not_not, Bool.not_eq_true', decide_eq_false_iff_not, true_and, and_true, Bool.true_and]
    omega
  · obtain ⟨i0, i1⟩ := idxI_ok a T.size (by omega) (by omega)
    have l1 := nums_len T
    have l2 := nums_len (turnF K T)
    generalize hi : (idxI a T.size).toNat = i at i1
    have hx : (lockF K H T).extract 0 T.size = turnF K T := by
      have := extract_left (turnF K T) (tagF (tagKF K) ((headB H ++ H) ++ turnF K T))
      rw [sB] at this
      exact this
    have r := lp_r k h t H T (lockF K H T) (taggedF (tagKF K) H (flipB (turnF K T) i y)) (flipB T i y) (hideF K) (tagKF K) (nonceF K) a y
    rw [hK, Int.toNat_natCast, hx, hi, IntWalk.i64_in ((T.size : Int) + 32) (by omega), e1] at r
    simp only [Nat.zero_add, Nat.mul_one, Nat.div_one, Nat.mod_one, List.drop_zero, bytesV_nums] at r
    rw [ints_cells .u8 (nums (turnF K T)) i (by omega), ints_cells .u8 (nums T) i (by omega), List.headD_cons, List.headD_cons] at r
    simp only [V.asInt] at r
    have p1 := ints_put .u8 (nums (turnF K T)) i (xorI .u8 ((nums (turnF K T)).getD i 0) y) (by omega)
    have p2 := ints_put .u8 (nums T) i (xorI .u8 ((nums T).getD i 0) y) (by omega)
    have t1 : (ints .u8 ((nums (turnF K T)).set i (xorI .u8 ((nums (turnF K T)).getD i 0) y))).take (turnF K T).size = ints .u8 ((nums (turnF K T)).set i (xorI .u8 ((nums (turnF K T)).getD i 0) y)) := List.take_of_length_le (by rw [ints_len, List.length_set]; omega)
    have t2 : (ints .u8 ((nums T).set i (xorI .u8 ((nums T).getD i 0) y))).take T.size = ints .u8 ((nums T).set i (xorI .u8 ((nums T).getD i 0) y)) := List.take_of_length_le (by rw [ints_len, List.length_set]; omega)
    have t3 : bytesOfL (ints .u8 ((nums T).set i (xorI .u8 ((nums T).getD i 0) y))) = flipB T i y := rfl
    have t4 : bytesOfL (ints .u8 ((nums (turnF K T)).set i (xorI .u8 ((nums (turnF K T)).getD i 0) y))) = flipB (turnF K T) i y := rfl
    simp only [p1, p2, t1, t2, t3, t4, decide_true] at r
    have hu := open_c K H (flipB (turnF K T) i y) k1 k2 (by rw [flip_size]; omega)
    rw [turn_flip] at hu
    refine pc r ?_ ⟨c1, c2, lock_c K H T k1 k2 k3, ho, keys_c K k1, alive_c, again_c (tagKF K) H (flipB (turnF K T) i y) (tagKF_size K) k2 (by rw [flip_size]; omega), hu, trivial⟩ rfl rfl
    simp only [bytesOk_ints, ints_len, List.length_set, l1, l2, sB, sz, List.length_singleton, shapeOk, beq_self_eq_true, Bool.and_true, Bool.and_eq_true, decide_eq_true_eq, Bool.not_not, Bool.not_eq_true', decide_eq_false_iff_not, true_and, and_true, Bool.true_and]
    omega
#print axioms alive_c
#print axioms cut_c
#print axioms proves_c
end Go.Proofs.YtcpeljfjgbjnjaaDoor
