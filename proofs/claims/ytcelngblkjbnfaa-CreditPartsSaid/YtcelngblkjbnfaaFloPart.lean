/-
  Doubles: the powers of 1/2, and so many times one of them (plain, no program).
-/
import Derived.Test.YtcelngblkjbnfaaFloWh
namespace Ieee
/-- The rung of j * 2 ^ (-p), by its units: what is written for it. -/
def partOf (p j : Nat) : Nat := double.nearest false j (-(p : Int))
theorem part_units (Q p j : Nat) (hQ : Q = 1074) (hp : p ≤ 900) (hj : j < 2 ^ 53) : unitsOf (partOf p j) = j * 2 ^ (Q - p) ∧ partOf p j < 2047 * 2 ^ 52 := by
  have h := write_exact j j (Q - p) (-(p : Int)) (by omega) (by congr 2; omega) hj (by omega)
  exact h
theorem part_eq (Q p j x : Nat) (hQ : Q = 1074) (hp : p ≤ 900) (hj : j < 2 ^ 53) (hx : unitsOf x = j * 2 ^ (Q - p)) : x = partOf p j := units_inj (hx.trans (part_units Q p j hQ hp hj).1.symm)
theorem part_zero (p : Nat) : partOf p 0 = 0 := rfl
/-- One more part: exact. -/
theorem part_add (p j : Nat) (hp : p ≤ 900) (hj : j + 1 < 2 ^ 53) : double.add (partOf p j) (partOf p 1) = some (partOf p (j + 1)) := by
  obtain ⟨Q, hQ⟩ : ∃ Q, Q = 1074 := ⟨_, rfl⟩
  obtain ⟨u1, f1⟩ := part_units Q p j hQ hp (by omega)
  obtain ⟨u2, f2⟩ := part_units Q p 1 hQ hp (by decide)
  obtain ⟨c, hc, hcu, _⟩ := add_exact (partOf p j) (partOf p 1) (j + 1) (Q - p) f1 f2 (by rw [u1, u2, Nat.add_mul]) hj (by omega)
  rw [hc, part_eq Q p (j + 1) c hQ hp hj hcu]
/-- 2 ^ p parts are 1. -/
theorem part_one (p : Nat) (hp : p ≤ 52) : partOf p (2 ^ p) = 1023 * 2 ^ 52 := by
  obtain ⟨Q, hQ⟩ : ∃ Q, Q = 1074 := ⟨_, rfl⟩
  have hlt : 2 ^ p < 2 ^ 53 := Nat.pow_lt_pow_right (by decide) (by omega)
  refine (part_eq Q p (2 ^ p) _ hQ (by omega) hlt ?_).symm
  rw [units_at_one Q hQ, ← Nat.pow_add]
  congr 1
  omega
theorem part_below (p j : Nat) (hp : p ≤ 52) (hj : j < 2 ^ p) : partOf p j < 1023 * 2 ^ 52 := by
  obtain ⟨Q, hQ⟩ : ∃ Q, Q = 1074 := ⟨_, rfl⟩
  have hlt : 2 ^ p ≤ 2 ^ 52 := Nat.pow_le_pow_right (by decide) hp
  refine lt_of_units ?_
  rw [(part_units Q p j hQ (by omega) (by omega)).1, units_at_one Q hQ]
  have e : (2 : Nat) ^ Q = 2 ^ p * 2 ^ (Q - p) := by rw [← Nat.pow_add]; congr 1; omega
  rw [e]
  exact Nat.mul_lt_mul_of_pos_right hj (Nat.two_pow_pos _)
theorem part_sub_one (p j : Nat) (hp : p ≤ 52) (hj : j < 2 ^ 52) : double.sub (partOf p (2 ^ p + j)) (1023 * 2 ^ 52) = some (partOf p j) := by
  obtain ⟨Q, hQ⟩ : ∃ Q, Q = 1074 := ⟨_, rfl⟩
  have hlt : 2 ^ p ≤ 2 ^ 52 := Nat.pow_le_pow_right (by decide) hp
  obtain ⟨u1, f1⟩ := part_units Q p (2 ^ p + j) hQ (by omega) (by omega)
  obtain ⟨c, hc, hcu, _⟩ := sub_exact (partOf p (2 ^ p + j)) (1023 * 2 ^ 52) j (Q - p) f1 (by omega) (by
    have e : (2 : Nat) ^ Q = 2 ^ p * 2 ^ (Q - p) := by rw [← Nat.pow_add]; congr 1; omega
    rw [u1, units_at_one Q hQ, e, ← Nat.add_mul]) (by omega) (by omega)
  rw [hc, part_eq Q p j c hQ (by omega) (by omega) hcu]
/-- A power of 1/2 as the format has it. -/
theorem part_rung (p : Nat) (hp : p ≤ 52) : partOf p 1 = (1023 - p) * 2 ^ 52 := by
  obtain ⟨Q, hQ⟩ : ∃ Q, Q = 1074 := ⟨_, rfl⟩
  refine (part_eq Q p 1 _ hQ (by omega) (by decide) ?_).symm
  obtain ⟨E, hE⟩ : ∃ E, E = 1022 - p := ⟨_, rfl⟩
  have := units_at E (by omega)
  rw [show (E + 1) * 2 ^ 52 = (1023 - p) * 2 ^ 52 by rw [hE]; congr 1; omega, show E + 52 = Q - p by omega] at this
  rw [this, Nat.one_mul]
/-- A product with a power of 1/2: exact. -/
theorem part_mul (p j : Nat) (hp : p ≤ 52) (hj : j < 2 ^ 52) : double.mul (partOf 0 j) (partOf p 1) = some (partOf p j) := by
  obtain ⟨Q, hQ⟩ : ∃ Q, Q = 1074 := ⟨_, rfl⟩
  have hr : double.read (partOf p 1) = .number false (2 ^ 52) (-52 - (p : Int)) := by
    rw [part_rung p hp, read_rung _ (Nat.mul_lt_mul_of_pos_right (by omega) (Nat.two_pow_pos _))]
    have h1 : 2 ^ 52 ≤ (1023 - p) * 2 ^ 52 := Nat.le_mul_of_pos_left _ (by omega)
    rw [if_neg (by omega), Nat.mul_mod_left, Nat.mul_div_cancel _ (Nat.two_pow_pos _)]
    congr 1
    omega
  by_cases h0 : j = 0
  · subst h0
    rw [part_zero, part_zero]
    unfold Format.mul
    rw [hr, show double.read 0 = .number false 0 (-1074) by decide]
    simp only [Datum.product, Option.map_some, Nat.zero_mul]
    rfl
  · obtain ⟨u1, f1⟩ := part_units Q 0 j hQ (by omega) (by omega)
    have hge : 1023 * 2 ^ 52 ≤ partOf 0 j := by
      refine Nat.le_of_not_lt fun hc => ?_
      have h2 := units_mono hc
      rw [u1, units_at_one Q hQ, Nat.sub_zero] at h2
      have h3 : 1 * 2 ^ Q ≤ j * 2 ^ Q := Nat.mul_le_mul_right _ (by omega)
      omega
    have hx := read_rung (partOf 0 j) f1
    rw [if_neg (by omega)] at hx
    obtain ⟨x, i, e1, hi, u2⟩ := read_units (partOf 0 j) f1
    have hi2 : -52 ≤ i := by
      rw [e1] at hx
      injection hx with _ _ h3
      omega
    unfold Format.mul
    rw [e1, hr]
    simp only [Datum.product, Option.map_some, Bool.false_bne]
    have hU : x * 2 ^ 52 * 2 ^ (i + (-52 - (p : Int)) + 1074).toNat = j * 2 ^ (Q - p) := by
      have h4 : x * 2 ^ (i + 1074).toNat = j * 2 ^ Q := by rw [← u2, u1, Nat.sub_zero]
      have e5 : (i + 1074).toNat = (52 + (i + (-52 - (p : Int)) + 1074).toNat) + p := by omega
      have e6 : Q = (Q - p) + p := by omega
      rw [e5, Nat.pow_add, Nat.pow_add] at h4
      rw [e6, Nat.pow_add, ← Nat.mul_assoc, ← Nat.mul_assoc, ← Nat.mul_assoc] at h4
      exact Nat.eq_of_mul_eq_mul_right (Nat.two_pow_pos p) h4
    obtain ⟨hw, _⟩ := write_exact (x * 2 ^ 52) j (Q - p) (i + (-52 - (p : Int))) (by omega) hU (by omega) (by omega)
    exact congrArg some (part_eq Q p j _ hQ (by omega) (by omega) hw)

/-- What is asked of the first twenty powers of 1/2. -/
def partOk (p : Nat) : Bool :=
  double.div (partOf p 1) 4611686018427387904 == some (partOf (p + 1) 1) &&
  double.write ((double.read (partOf p 1)).integral .down) == (if p = 0 then 4607182418800017408 else 0) &&
  double.sub (partOf p 1) (if p = 0 then 4607182418800017408 else 0) == some (if p = 0 then 0 else partOf p 1) &&
  decide (0 < partOf p 1) && decide (partOf p 1 < 1063 * 2 ^ 52)
theorem parts_ok : (List.range 20).all partOk = true := by decide +kernel
theorem part_ok (p : Nat) (hp : p < 20) : partOk p = true := List.all_eq_true.1 parts_ok p (List.mem_range.2 hp)
end Ieee
