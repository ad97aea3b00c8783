/- Tables: plain laws. -/
import Derived.Test.YtacfehecjjoffaaDoorW6
set_option linter.unusedSimpArgs false
set_option linter.unusedVariables false
namespace Go.Proofs.Tryd.Ai
open Go Go.AI Fil
theorem andNotV_nat (X Y : Nat) (hX : X < 2 ^ 64) (hY : Y < 2 ^ 64) : ∃ Z : Nat, andNotV X Y = Z ∧ Z < 2 ^ 64 ∧ ∀ i, Z.testBit i = (X.testBit i && !Y.testBit i) := by
  refine ⟨(BitVec.ofNat 64 X &&& ~~~BitVec.ofNat 64 Y).toNat, ?_, (BitVec.ofNat 64 X &&& ~~~BitVec.ofNat 64 Y).isLt, fun i => ?_⟩
  · unfold andNotV
    have e1 : BitVec.ofInt IntKind.u64.bits (X : Int) = BitVec.ofNat 64 X := BitVec.ofInt_natCast 64 X
    have e2 : BitVec.ofInt IntKind.u64.bits (Y : Int) = BitVec.ofNat 64 Y := BitVec.ofInt_natCast 64 Y
    rw [e1, e2]
    have hz : (BitVec.ofNat 64 X &&& ~~~BitVec.ofNat 64 Y).toNat < 18446744073709551616 := (BitVec.ofNat 64 X &&& ~~~BitVec.ofNat 64 Y).isLt
    show IntKind.u64.wrap (((BitVec.ofNat 64 X &&& ~~~BitVec.ofNat 64 Y).toNat : Nat) : Int) = _
    exact W.wrap_u64 ⟨by omega, by omega⟩
  · rw [BitVec.testBit_toNat, BitVec.getLsbD_and, BitVec.getLsbD_not, BitVec.getLsbD_ofNat, BitVec.getLsbD_ofNat]
    by_cases h : i < 64
    · simp [h]
    · have : X.testBit i = false := Nat.testBit_lt_two_pow (Nat.lt_of_lt_of_le hX (Nat.pow_le_pow_right (by omega) (by omega)))
      simp [h, this]
def rowsN (k : Nat) : Nat := 2 ^ (2 ^ min k 6) - 1
theorem rowsV_nat (k : Nat) : rowsV k = (rowsN k : Int) := by
  unfold rowsV rowsN
  have : 0 < 2 ^ (2 ^ min k 6) := Nat.pow_pos (by omega)
  rw [Int.natCast_sub (by omega)]; simp
theorem rowsN_lt (k : Nat) : rowsN k < 2 ^ 64 := by
  unfold rowsN
  have h1 : 2 ^ min k 6 ≤ 64 := by
    have : 2 ^ min k 6 ≤ 2 ^ 6 := Nat.pow_le_pow_right (by omega) (by omega)
    omega
  have h2 : 2 ^ (2 ^ min k 6) ≤ 2 ^ 64 := Nat.pow_le_pow_right (by omega) h1
  have : 0 < 2 ^ (2 ^ min k 6) := Nat.pow_pos (by omega)
  omega
theorem rowsN_bit (k i : Nat) : (rowsN k).testBit i = decide (i < 2 ^ min k 6) := by
  unfold rowsN; rw [Nat.testBit_two_pow_sub_one]
theorem bitsNat_lt : ∀ l : List Bool, bitsNat l < 2 ^ l.length
  | [] => by simp [bitsNat]
  | b :: l => by
    have := bitsNat_lt l
    simp only [bitsNat, List.length_cons, Nat.pow_succ]
    cases b <;> simp <;> omega
/-- A table turned round. -/
theorem turned (T : Nat) (hT : T < 2 ^ 64) (k : Nat) (hk : k ≤ 6) : ∃ Z : Nat, andNotV (rowsV k) T = Z ∧ Z < 2 ^ 64 ∧ andNotV Z (rowsV k) = 0 ∧ ∀ l : List Bool, l.length = k → bitV Z l = !bitV T l := by
  obtain ⟨Z, h1, h2, h3⟩ := andNotV_nat (rowsN k) T (rowsN_lt k) hT
  refine ⟨Z, by rw [rowsV_nat]; exact h1, h2, ?_, fun l hl => ?_⟩
  · obtain ⟨Y, y1, y2, y3⟩ := andNotV_nat Z (rowsN k) h2 (rowsN_lt k)
    rw [rowsV_nat, y1]
    have : Y = 0 := Nat.eq_of_testBit_eq fun i => by
      rw [y3, h3]; cases (rowsN k).testBit i <;> simp
    rw [this]; rfl
  · have hb := bitsNat_lt l
    rw [hl] at hb
    show Z.testBit _ = !T.testBit _
    rw [h3, rowsN_bit, show min k 6 = k by omega, decide_eq_true hb]; simp
theorem valuesFrom_prefix (v : List Bool) (l : List Lut) (i : Nat) (h : i < v.length) : (valuesFrom v l).getD i default = v.getD i default := by
  induction l generalizing v with
  | nil => rfl
  | cons t l ih =>
    have := ih (v ++ [lutV v t]) (by simp; omega)
    simp only [valuesFrom, List.foldl_cons] at this ⊢
    rw [this]
    simp only [List.getD_eq_getElem?_getD]
    rw [List.getElem?_append_left h]
/-- What a table is, its value is. -/
theorem valuesFrom_at (v : List Bool) (l : List Lut) (j : Nat) (h : j < l.length) : (valuesFrom v l).getD (v.length + j) default = lutV (valuesFrom v (l.take j)) (l.getD j default) := by
  have e : valuesFrom v l = valuesFrom (valuesFrom v (l.take (j + 1))) (l.drop (j + 1)) := by
    conv => lhs; rw [← List.take_append_drop (j + 1) l]
    unfold valuesFrom; rw [List.foldl_append]
  have hl : (valuesFrom v (l.take j)).length = v.length + j := by rw [valuesFrom_len, List.length_take]; omega
  rw [e, valuesFrom_prefix _ _ _ (by rw [valuesFrom_len, List.length_take]; omega), valuesFrom_snoc l j v h]
  simp only [List.getD_eq_getElem?_getD]
  rw [List.getElem?_append_right (by omega), hl]; simp
theorem valuesFrom_pre (v : List Bool) (l : List Lut) (j i : Nat) (hj : j ≤ l.length) (h : i < v.length + j) : (valuesFrom v l).getD i default = (valuesFrom v (l.take j)).getD i default := by
  have e : valuesFrom v l = valuesFrom (valuesFrom v (l.take j)) (l.drop j) := by
    conv => lhs; rw [← List.take_append_drop j l]
    unfold valuesFrom; rw [List.foldl_append]
  rw [e, valuesFrom_prefix _ _ _ (by rw [valuesFrom_len, List.length_take]; omega)]
end Go.Proofs.Tryd.Ai
