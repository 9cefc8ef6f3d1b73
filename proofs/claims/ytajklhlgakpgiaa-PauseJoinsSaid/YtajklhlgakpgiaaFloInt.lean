import Derived.Test.YtajklhlgakpgiaaFloOrd
namespace Ieee
theorem cut_zero_way (n drop : Nat) : Toward.zero.cut false n drop = n / 2 ^ drop := by
  unfold Toward.cut
  simp only [Bool.toNat_false, Nat.add_zero, Nat.shiftLeft_eq, Nat.one_mul]
  by_cases h : drop ≤ n.log2 + 2
  · rw [Nat.min_eq_left h]
  · rw [Nat.min_eq_right (by omega)]
    have h1 : n < 2 ^ (n.log2 + 1) := Nat.lt_log2_self
    have h2 : 2 ^ (n.log2 + 1) ≤ 2 ^ (n.log2 + 2) := Nat.pow_le_pow_right (by decide) (by omega)
    have h3 : 2 ^ (n.log2 + 2) ≤ 2 ^ drop := Nat.pow_le_pow_right (by decide) (by omega)
    rw [Nat.div_eq_of_lt (by omega), Nat.div_eq_of_lt (by omega)]

theorem integral_rung (Q r : Nat) (hQ : Q = 1074) (way : Toward) (hw : ∀ n d, way.cut false n d = n / 2 ^ d) (h : r < 2047 * 2 ^ 52) : (double.read r).integral way = .number false (unitsOf r / 2 ^ Q) 0 := by
  obtain ⟨m, i, e1, hi, u1⟩ := read_units r h
  unfold Datum.integral
  rw [e1]
  simp only [Nat.shiftLeft_eq, hw]
  congr 1
  rw [u1]
  by_cases hn : 0 ≤ i
  · have e2 : (-i).toNat = 0 := by omega
    have e3 : (i + 1074).toNat = i.toNat + Q := by omega
    rw [e2, e3, Nat.pow_zero, Nat.div_one, Nat.pow_add, ← Nat.mul_assoc, Nat.mul_div_cancel _ (Nat.two_pow_pos _)]
  · have e2 : i.toNat = 0 := by omega
    have e3 : 2 ^ Q = 2 ^ (-i).toNat * 2 ^ (i + 1074).toNat := by rw [← Nat.pow_add]; congr 1; omega
    rw [e2, Nat.pow_zero, Nat.mul_one, e3, Nat.mul_div_mul_right _ _ (Nat.two_pow_pos _)]
theorem cut_down_way (n drop : Nat) : Toward.down.cut false n drop = n / 2 ^ drop := cut_zero_way n drop
theorem toInt_rung (Q r : Nat) (hQ : Q = 1074) (h : r < 2047 * 2 ^ 52) : (double.read r).toInt .zero = some ((unitsOf r / 2 ^ Q : Nat) : Int) := by
  unfold Datum.toInt
  rw [integral_rung Q r hQ .zero cut_zero_way h]
  simp [signed]
end Ieee
