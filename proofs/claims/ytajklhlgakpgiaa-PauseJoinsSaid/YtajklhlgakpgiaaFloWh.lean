/-
  The whole part of a positive double below 2^40, and what is left (plain, no program).
-/
import Derived.Test.YtajklhlgakpgiaaFloOps
namespace Ieee
theorem units_form (r : Nat) (h : r < 2047 * 2 ^ 52) : ∃ u E, unitsOf r = u * 2 ^ E ∧ u < 2 ^ 53 ∧ E ≤ 1900 + 146 := by
  unfold unitsOf
  split
  · exact ⟨r, 0, by simp, by omega, by omega⟩
  · exact ⟨_, _, rfl, by omega, by omega⟩
theorem units_le {a b : Nat} (h : a ≤ b) : unitsOf a ≤ unitsOf b := by
  rcases Nat.lt_or_eq_of_le h with c | c
  · exact Nat.le_of_lt (units_mono c)
  · rw [c]; exact Nat.le_refl _
theorem lt_of_units {a b : Nat} (h : unitsOf a < unitsOf b) : a < b := Nat.lt_of_not_le fun hc => absurd (units_le hc) (by omega)
theorem units_at (E : Nat) (hE : 1 ≤ E) : unitsOf ((E + 1) * 2 ^ 52) = 2 ^ (E + 52) := by
  rw [units_two E hE, Nat.pow_add, Nat.mul_comm]
theorem units_at_one (Q : Nat) (hQ : Q = 1074) : unitsOf (1023 * 2 ^ 52) = 2 ^ Q := by
  obtain ⟨E, hE⟩ : ∃ E, E = 1022 := ⟨_, rfl⟩
  have := units_at E (by omega)
  rw [show (E + 1) * 2 ^ 52 = 1023 * 2 ^ 52 by omega, show E + 52 = Q by omega] at this
  exact this
theorem units_at_top (Q : Nat) (hQ : Q = 1074) : unitsOf (1063 * 2 ^ 52) = 2 ^ 40 * 2 ^ Q := by
  obtain ⟨E, hE⟩ : ∃ E, E = 1062 := ⟨_, rfl⟩
  have := units_at E (by omega)
  rw [show (E + 1) * 2 ^ 52 = 1063 * 2 ^ 52 by omega, show E + 52 = 40 + Q by omega, Nat.pow_add] at this
  exact this

/-- The whole part n, as a double t, and the exact rest d below 1. -/
theorem whole_rest (Q r : Nat) (hQ : Q = 1074) (h : r < 1063 * 2 ^ 52) :
    ∃ n t d : Nat, n < 2 ^ 40 ∧ (double.read r).integral .down = .number false n 0 ∧ (double.read r).toInt .zero = some (n : Int) ∧ double.write (.number false n 0) = t ∧
      double.sub r t = some d ∧ d < 1023 * 2 ^ 52 ∧ (double.read t).toInt .zero = some (n : Int) := by
  have hf : r < 2047 * 2 ^ 52 := by omega
  have hp : 0 < 2 ^ Q := Nat.two_pow_pos Q
  have hn : unitsOf r / 2 ^ Q < 2 ^ 40 := by
    rw [Nat.div_lt_iff_lt_mul hp, ← units_at_top Q hQ]
    exact units_mono h
  obtain ⟨hw, hwf⟩ := write_exact (unitsOf r / 2 ^ Q) (unitsOf r / 2 ^ Q) Q 0 (by omega) (by congr 2; omega) (by omega) (by omega)
  obtain ⟨u, E, hu, hu53, _⟩ := units_form r hf
  have hE : ∃ m k, unitsOf r % 2 ^ Q = m * 2 ^ k ∧ m < 2 ^ 53 ∧ k ≤ 1900 := by
    by_cases hc : Q ≤ E
    · refine ⟨0, 0, ?_, by omega, by omega⟩
      have e : (2 : Nat) ^ E = 2 ^ Q * 2 ^ (E - Q) := by rw [← Nat.pow_add]; congr 1; omega
      rw [hu, e, Nat.mul_left_comm, Nat.mul_mod_right, Nat.zero_mul]
    · refine ⟨u % 2 ^ (Q - E), E, ?_, Nat.lt_of_le_of_lt (Nat.mod_le _ _) hu53, by omega⟩
      have e : (2 : Nat) ^ Q = 2 ^ (Q - E) * 2 ^ E := by rw [← Nat.pow_add]; congr 1; omega
      rw [hu, e, Nat.mul_mod_mul_right]
  obtain ⟨m, k, hm, hm53, hk⟩ := hE
  obtain ⟨d, hd, hdu, _⟩ := sub_exact r _ m k hf hwf (by rw [hw, ← hm, Nat.mul_comm]; exact (Nat.div_add_mod _ _).symm) hm53 hk
  refine ⟨_, _, d, hn, integral_rung Q r hQ .down cut_down_way hf, toInt_rung Q r hQ hf, rfl, hd, ?_, ?_⟩
  · refine lt_of_units ?_
    rw [units_at_one Q hQ, hdu, ← hm]
    exact Nat.mod_lt _ hp
  · rw [toInt_rung Q _ hQ hwf, hw, Nat.mul_div_cancel _ hp]
end Ieee
