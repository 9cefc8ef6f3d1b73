/-
  Doubles: the product of a double up to 1 and a whole number, and the least whole number that is not less (plain, no program).
-/
import Derived.Test.YtajklhlgakpgiaaFloWh
namespace Ieee
theorem cut_le (n d c : Nat) (h : n ≤ c * 2 ^ d) : Toward.even.cut false n d ≤ c := cut_even_le n d c h
/-- A number below 2^E1 in units of 2^(-1074) is written at or below a rung. -/
theorem nearest_le (M : Nat) (place : Int) (e : Int) (hM : M ≠ 0) (he : place + M.log2 ≤ e) (he0 : -1022 ≤ e) (he1 : e ≤ 900) : double.nearest false M place ≤ ((e - 52 + 1074).toNat + 2) * 2 ^ 52 := by
  rw [nearest_eq M place hM]
  obtain ⟨L, hL⟩ : ∃ L, L = M.log2 := ⟨_, rfl⟩
  have hhi : M < 2 ^ (L + 1) := by rw [hL]; exact Nat.lt_log2_self
  rw [← hL] at he ⊢
  refine Nat.le_trans (Nat.min_le_left _ _) ?_
  have hcut : Toward.even.cut false (M * 2 ^ (place - max (place + L - 52) (-1074)).toNat) (max (place + L - 52) (-1074) - place).toNat ≤ 2 ^ 53 := by
    refine cut_le _ _ _ ?_
    by_cases hs : place + L - 52 ≤ -1074
    · rw [Int.max_eq_right hs]
      by_cases hp : -1074 ≤ place
      · rw [show ((-1074 : Int) - place).toNat = 0 by omega, Nat.pow_zero, Nat.mul_one]
        have h1 : M * 2 ^ (place - -1074).toNat ≤ 2 ^ (L + 1) * 2 ^ (place - -1074).toNat := Nat.mul_le_mul_right _ (by omega)
        have h2 : 2 ^ (L + 1) * 2 ^ (place - -1074).toNat ≤ 2 ^ 53 := by rw [← Nat.pow_add]; exact Nat.pow_le_pow_right (by decide) (by omega)
        omega
      · rw [show (place - -1074).toNat = 0 by omega, Nat.pow_zero, Nat.mul_one]
        have h2 : 2 ^ (L + 1) ≤ 2 ^ 53 * 2 ^ ((-1074 : Int) - place).toNat := by rw [← Nat.pow_add]; exact Nat.pow_le_pow_right (by decide) (by omega)
        omega
    · rw [Int.max_eq_left (by omega)]
      by_cases hp : L ≤ 52
      · rw [show (place + (L : Int) - 52 - place).toNat = 0 by omega, Nat.pow_zero, Nat.mul_one, show (place - (place + (L : Int) - 52)).toNat = 52 - L by omega]
        have h1 : M * 2 ^ (52 - L) ≤ 2 ^ (L + 1) * 2 ^ (52 - L) := Nat.mul_le_mul_right _ (by omega)
        have h2 : 2 ^ (L + 1) * 2 ^ (52 - L) ≤ 2 ^ 53 := by rw [← Nat.pow_add]; exact Nat.pow_le_pow_right (by decide) (by omega)
        omega
      · rw [show (place - (place + (L : Int) - 52)).toNat = 0 by omega, Nat.pow_zero, Nat.mul_one, show (place + (L : Int) - 52 - place).toNat = L - 52 by omega]
        have h2 : 2 ^ (L + 1) ≤ 2 ^ 53 * 2 ^ (L - 52) := by rw [← Nat.pow_add]; exact Nat.pow_le_pow_right (by decide) (by omega)
        omega
  have hE : (max (place + (L : Int) - 52) (-1074) + 1074).toNat ≤ (e - 52 + 1074).toNat := by omega
  have h1 : (max (place + (L : Int) - 52) (-1074) + 1074).toNat * 2 ^ 52 ≤ (e - 52 + 1074).toNat * 2 ^ 52 := Nat.mul_le_mul_right _ hE
  rw [Nat.add_mul, show 2 * 2 ^ 52 = 2 ^ 53 by decide]
  exact Nat.add_le_add h1 hcut
/-- The rung of a whole number. -/
def intOfF (j : Nat) : Nat := double.nearest false j 0
theorem int_units (Q j : Nat) (hQ : Q = 1074) (hj : j < 2 ^ 53) : unitsOf (intOfF j) = j * 2 ^ Q ∧ intOfF j < 2047 * 2 ^ 52 := by
  have h := write_exact j j Q 0 (by omega) (by congr 2; omega) hj (by omega)
  exact h
/-- A double up to 1 by a whole number. -/
theorem mul_int (t j : Nat) (ht : t ≤ 1023 * 2 ^ 52) (hj : j ≤ 1000000) : ∃ c, double.mul t (intOfF j) = some c ∧ c ≤ 1044 * 2 ^ 52 := by
  obtain ⟨Q, hQ⟩ : ∃ Q, Q = 1074 := ⟨_, rfl⟩
  obtain ⟨m, i, e1, hi, u1⟩ := read_units t (by omega)
  obtain ⟨u2, f2⟩ := int_units Q j hQ (by omega)
  obtain ⟨x, y, e2, hy, u3⟩ := read_units (intOfF j) f2
  have hmul : double.mul t (intOfF j) = some (double.nearest false (m * x) (i + y)) := by
    unfold Format.mul
    rw [e1, e2]
    rfl
  refine ⟨_, hmul, ?_⟩
  by_cases h0 : m * x = 0
  · rw [h0]
    have : double.nearest false 0 (i + y) = 0 := rfl
    rw [this]
    exact Nat.zero_le _
  · have hut : unitsOf t ≤ 2 ^ Q := by rw [← units_at_one Q hQ]; exact units_le ht
    have hL : 2 ^ (m * x).log2 ≤ m * x := Nat.log2_self_le h0
    have hprod : (m * x) * 2 ^ ((i + 1074).toNat + (y + 1074).toNat) ≤ 2 ^ Q * (1000000 * 2 ^ Q) := by
      have h1 : (m * x) * 2 ^ ((i + 1074).toNat + (y + 1074).toNat) = (m * 2 ^ (i + 1074).toNat) * (x * 2 ^ (y + 1074).toNat) := by
        rw [Nat.pow_add]; ac_rfl
      rw [h1, ← u1, ← u3, u2]
      exact Nat.mul_le_mul hut (Nat.mul_le_mul_right _ hj)
    have hlt : 2 ^ ((m * x).log2 + ((i + 1074).toNat + (y + 1074).toNat)) < 2 ^ (Q + Q + 20) := by
      rw [Nat.pow_add]
      refine Nat.lt_of_le_of_lt (Nat.le_trans (Nat.mul_le_mul_right _ hL) hprod) ?_
      rw [Nat.pow_add, Nat.pow_add, Nat.mul_assoc, Nat.mul_comm 1000000]
      exact Nat.mul_lt_mul_of_pos_left (Nat.mul_lt_mul_of_pos_left (by decide) (Nat.two_pow_pos _)) (Nat.two_pow_pos _)
    have hexp := (Nat.pow_lt_pow_iff_right (by decide : 1 < 2)).1 hlt
    have := nearest_le (m * x) (i + y) 20 h0 (by omega) (by omega) (by omega)
    exact this
/-- The least whole number that is not less. -/
theorem cut_up_way (n drop : Nat) : Toward.up.cut false n drop = (n + (2 ^ drop - 1)) / 2 ^ drop := by
  unfold Toward.cut
  simp only [Bool.not_false, Bool.true_and, Nat.shiftLeft_eq, Nat.one_mul]
  have key : ∀ g : Nat, 0 < g → n / g + (n % g != 0).toNat = (n + (g - 1)) / g := by
    intro g hg
    have h1 := Nat.div_add_mod n g
    by_cases hz : n % g = 0
    · rw [hz]
      simp only [bne_self_eq_false, Bool.toNat_false, Nat.add_zero]
      have h2 : n + (g - 1) = g * (n / g) + (g - 1) := by omega
      rw [h2, Nat.mul_add_div hg, Nat.div_eq_of_lt (show g - 1 < g by omega), Nat.add_zero]
    · have hb : (n % g != 0) = true := bne_iff_ne.2 hz
      rw [hb]
      simp only [Bool.toNat_true]
      have h3 := Nat.mod_lt n hg
      have h2 : n + (g - 1) = g * (n / g + 1) + (n % g - 1) := by rw [Nat.mul_add]; omega
      rw [h2, Nat.mul_add_div hg, Nat.div_eq_of_lt (show n % g - 1 < g by omega), Nat.add_zero]
  by_cases h : drop ≤ n.log2 + 2
  · rw [Nat.min_eq_left h]
    exact key _ (Nat.two_pow_pos _)
  · rw [Nat.min_eq_right (by omega), key _ (Nat.two_pow_pos _)]
    have h1 : n < 2 ^ (n.log2 + 1) := Nat.lt_log2_self
    have h2 : 2 ^ (n.log2 + 1) ≤ 2 ^ (n.log2 + 2) := Nat.pow_le_pow_right (by decide) (by omega)
    have h3 : 2 ^ (n.log2 + 2) ≤ 2 ^ drop := Nat.pow_le_pow_right (by decide) (by omega)
    have p2 := Nat.two_pow_pos (n.log2 + 2)
    have pd := Nat.two_pow_pos drop
    by_cases hn : n = 0
    · subst hn
      rw [Nat.zero_add, Nat.zero_add, Nat.div_eq_of_lt (by omega), Nat.div_eq_of_lt (by omega)]
    · have e1 : ∀ g, n < g → 0 < g → (n + (g - 1)) / g = 1 := fun g hg hp => by
        have : n + (g - 1) = g * 1 + (n - 1) := by omega
        rw [this, Nat.mul_add_div hp, Nat.div_eq_of_lt (by omega)]
      rw [e1 _ (by omega) (by omega), e1 _ (by omega) (by omega)]
theorem ceil_rung (Q r : Nat) (hQ : Q = 1074) (h : r < 2047 * 2 ^ 52) : (double.read r).integral .up = .number false ((unitsOf r + (2 ^ Q - 1)) / 2 ^ Q) 0 := by
  obtain ⟨m, i, e1, hi, u1⟩ := read_units r h
  unfold Datum.integral
  rw [e1]
  simp only [Nat.shiftLeft_eq, cut_up_way]
  congr 1
  rw [u1]
  have pq := Nat.two_pow_pos Q
  by_cases hn : 0 ≤ i
  · have e2 : (-i).toNat = 0 := by omega
    have e3 : (i + 1074).toNat = i.toNat + Q := by omega
    rw [e2, e3, Nat.pow_zero, Nat.div_one, Nat.pow_add, ← Nat.mul_assoc]
    have : m * 2 ^ i.toNat * 2 ^ Q + (2 ^ Q - 1) = 2 ^ Q * (m * 2 ^ i.toNat) + (2 ^ Q - 1) := by rw [Nat.mul_comm (2 ^ Q)]
    rw [this, Nat.mul_add_div pq, Nat.div_eq_of_lt (by omega)]
  · have e2 : i.toNat = 0 := by omega
    have e3 : 2 ^ Q = 2 ^ (-i).toNat * 2 ^ (i + 1074).toNat := by rw [← Nat.pow_add]; congr 1; omega
    obtain ⟨A, hA⟩ : ∃ A, A = 2 ^ (-i).toNat := ⟨_, rfl⟩
    obtain ⟨Bq, hB⟩ : ∃ Bq, Bq = 2 ^ (i + 1074).toNat := ⟨_, rfl⟩
    have pA : 0 < A := by rw [hA]; exact Nat.two_pow_pos _
    have pB : 0 < Bq := by rw [hB]; exact Nat.two_pow_pos _
    rw [e2, Nat.pow_zero, Nat.mul_one, e3, ← hA, ← hB]
    rw [Nat.mul_comm A Bq, ← Nat.div_div_eq_div_mul]
    have h5 : (m * Bq + (Bq * A - 1)) / Bq = m + (A - 1) := by
      have h6 : Bq * A - 1 = Bq * (A - 1) + (Bq - 1) := by
        obtain ⟨A', rfl⟩ : ∃ A', A = A' + 1 := ⟨A - 1, by omega⟩
        rw [Nat.mul_add, Nat.add_sub_cancel]; omega
      have h7 : m * Bq + (Bq * A - 1) = Bq * (m + (A - 1)) + (Bq - 1) := by rw [h6, Nat.mul_add, Nat.mul_comm m]; omega
      rw [h7, Nat.mul_add_div pB, Nat.div_eq_of_lt (by omega), Nat.add_zero]
    rw [h5]
/-- Ceil of a double up to 2^21. -/
theorem ceil_int (Q c : Nat) (hQ : Q = 1074) (hc : c ≤ 1044 * 2 ^ 52) : ∃ u : Nat, u ≤ 2 ^ 22 ∧ double.write ((double.read c).integral .up) = intOfF u ∧ (double.read (intOfF u)).toInt .zero = some (u : Int) ∧ u = (unitsOf c + (2 ^ Q - 1)) / 2 ^ Q := by
  have hu : unitsOf c ≤ 2 ^ 21 * 2 ^ Q := by
    have h1 := units_le hc
    rw [show 1044 * 2 ^ 52 = (1043 + 1) * 2 ^ 52 by rfl, units_at 1043 (by omega)] at h1
    rw [show 1043 + 52 = 21 + Q by omega, Nat.pow_add] at h1
    exact h1
  have pq := Nat.two_pow_pos Q
  have hle : (unitsOf c + (2 ^ Q - 1)) / 2 ^ Q ≤ 2 ^ 22 := by
    rw [Nat.div_le_iff_le_mul_add_pred pq]
    have : 2 ^ 21 * 2 ^ Q ≤ 2 ^ Q * 2 ^ 22 := by rw [Nat.mul_comm]; exact Nat.mul_le_mul_left _ (by decide)
    omega
  refine ⟨_, hle, ?_, ?_, rfl⟩
  · rw [ceil_rung Q c hQ (by omega)]
    rfl
  · obtain ⟨u1, f1⟩ := int_units Q ((unitsOf c + (2 ^ Q - 1)) / 2 ^ Q) hQ (by omega)
    rw [toInt_rung Q _ hQ f1, u1, Nat.mul_div_cancel _ pq]
end Ieee
