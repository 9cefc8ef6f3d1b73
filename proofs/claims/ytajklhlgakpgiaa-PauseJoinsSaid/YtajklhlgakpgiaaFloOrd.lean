import Derived.Test.YtajklhlgakpgiaaFlo
namespace Ieee
/-- A finite positive word: its number, in units. -/
theorem read_units (r : Nat) (h : r < 2047 * 2 ^ 52) : ∃ (m : Nat) (i : Int), double.read r = .number false m i ∧ -1074 ≤ i ∧ unitsOf r = m * 2 ^ (i + 1074).toNat := by
  rw [read_rung r h]
  unfold unitsOf
  by_cases a : r < 2 ^ 52
  · rw [if_pos a, if_pos a]
    exact ⟨r, -1074, rfl, by omega, by simp⟩
  · rw [if_neg a, if_neg a]
    refine ⟨2 ^ 52 + r % 2 ^ 52, -1074 + ((r / 2 ^ 52 - 1 : Nat) : Int), rfl, by omega, ?_⟩
    congr 2
    omega
theorem cmp_int (x y : Int) : compare x y = if x < y then .lt else if x = y then .eq else .gt := rfl
/-- Of two finite positive words the rungs are compared. -/
theorem order_rung (a b : Nat) (ha : a < 2047 * 2 ^ 52) (hb : b < 2047 * 2 ^ 52) : double.order a b = some (if a < b then .lt else if a = b then .eq else .gt) := by
  obtain ⟨m, i, e1, hi, u1⟩ := read_units a ha
  obtain ⟨n, j, e2, hj, u2⟩ := read_units b hb
  unfold Format.order
  rw [e1, e2]
  unfold Datum.order
  simp only [signed, Bool.false_eq_true, if_false, Nat.shiftLeft_eq, cmp_int]
  congr 1
  have hc : 0 < 2 ^ (min i j + 1074).toNat := Nat.two_pow_pos _
  have f1 : unitsOf a = (m * 2 ^ (i - min i j).toNat) * 2 ^ (min i j + 1074).toNat := by
    rw [u1, Nat.mul_assoc, ← Nat.pow_add]; congr 2; omega
  have f2 : unitsOf b = (n * 2 ^ (j - min i j).toNat) * 2 ^ (min i j + 1074).toNat := by
    rw [u2, Nat.mul_assoc, ← Nat.pow_add]; congr 2; omega
  generalize m * 2 ^ (i - min i j).toNat = X at *
  generalize n * 2 ^ (j - min i j).toNat = Y at *
  generalize 2 ^ (min i j + 1074).toNat = c at *
  rcases Nat.lt_trichotomy a b with h | h | h
  · have hu := units_mono h
    rw [f1, f2] at hu
    have hxy : X < Y := Nat.lt_of_mul_lt_mul_right hu
    rw [if_pos h, if_pos (by omega)]
  · subst h
    have hxy : X = Y := Nat.eq_of_mul_eq_mul_right hc (f1.symm.trans f2)
    rw [if_neg (by omega), if_pos (by omega), if_neg (by omega), if_pos rfl]
  · have hu := units_mono h
    rw [f1, f2] at hu
    have hxy : Y < X := Nat.lt_of_mul_lt_mul_right hu
    rw [if_neg (by omega), if_neg (by omega), if_neg (by omega), if_neg (by omega)]
end Ieee
