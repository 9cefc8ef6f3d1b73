/-
  Doubles: sums, differences and products that the format has are given exactly; a sum below 2 stays below 2 (plain, no program).
-/
import Derived.Test.YtajklhlgakpgiaaFloInt
namespace Ieee
theorem cut_even_div (neg : Bool) (n d : Nat) (h : n % 2 ^ d = 0) : Toward.even.cut neg n d = n / 2 ^ d := by
  unfold Toward.cut
  simp only [Nat.shiftLeft_eq, Nat.one_mul]
  by_cases hd : d ≤ n.log2 + 2
  · rw [Nat.min_eq_left hd, h]
    have hp : 0 < 2 ^ d := Nat.two_pow_pos d
    generalize 2 ^ d = g at *
    have h1 : decide (g < 2 * 0) = false := by simp
    have h2 : (g == 2 * 0) = false := by simp; omega
    simp only [h1, h2, Bool.false_and, Bool.false_or, Bool.toNat_false, Nat.add_zero]
  · have h1 : n < 2 ^ (n.log2 + 1) := Nat.lt_log2_self
    have h2 : 2 ^ (n.log2 + 1) ≤ 2 ^ d := Nat.pow_le_pow_right (by decide) (by omega)
    have h3 : n = 0 := by rw [Nat.mod_eq_of_lt (by omega)] at h; exact h
    subst h3
    simp
theorem cut_even_le (n d c : Nat) (h : n ≤ c * 2 ^ d) : Toward.even.cut false n d ≤ c := by
  unfold Toward.cut
  simp only [Nat.shiftLeft_eq, Nat.one_mul]
  by_cases hd : d ≤ n.log2 + 2
  · rw [Nat.min_eq_left hd]
    have hp : 0 < 2 ^ d := Nat.two_pow_pos d
    generalize 2 ^ d = g at *
    have h1 : n / g ≤ c := Nat.div_le_of_le_mul (by rw [Nat.mul_comm]; exact h)
    rcases Nat.lt_or_eq_of_le h1 with h2 | h2
    · have := Bool.toNat_le (decide (g < 2 * (n % g)) || (g == 2 * (n % g)) && (n / g % 2 == 1))
      omega
    · have h3 := Nat.div_add_mod n g
      have h5 : g * (n / g) = c * g := by rw [h2, Nat.mul_comm]
      have h4 : n % g = 0 := by omega
      rw [h4]
      have e1 : decide (g < 2 * 0) = false := by simp
      have e2 : (g == 2 * 0) = false := by simp; omega
      simp only [e1, e2, Bool.false_and, Bool.false_or, Bool.toNat_false, Nat.add_zero]
      exact h1
  · rw [Nat.min_eq_right (by omega)]
    have h1 : n < 2 ^ (n.log2 + 1) := Nat.lt_log2_self
    have h2 : 2 ^ (n.log2 + 2) = 2 ^ (n.log2 + 1) * 2 := Nat.pow_succ _ _
    generalize 2 ^ (n.log2 + 2) = g at *
    rw [Nat.div_eq_of_lt (by omega), Nat.mod_eq_of_lt (by omega)]
    have e1 : decide (g < 2 * n) = false := by simp; omega
    have e2 : (g == 2 * n) = false := by simp; omega
    simp only [e1, e2, Bool.false_and, Bool.false_or, Bool.toNat_false, Nat.add_zero]
    exact Nat.zero_le _

theorem nearest_eq (M : Nat) (place : Int) (hM : M ≠ 0) : double.nearest false M place = min ((max (place + M.log2 - 52) (-1074) + 1074).toNat * 2 ^ 52 + Toward.even.cut false (M * 2 ^ (place - max (place + M.log2 - 52) (-1074)).toNat) (max (place + M.log2 - 52) (-1074) - place).toNat) (2047 * 2 ^ 52) := by
  have e0 : double.leastPlace = -1074 := by decide
  have e1 : double.fractionBits = 52 := rfl
  have e2 : double.binade = 2 ^ 52 := rfl
  have e3 : double.infRung = 2047 * 2 ^ 52 := by decide
  unfold Format.nearest
  rw [if_neg hM, e0, e1, e2, e3]
  simp only [Format.word, Bool.false_eq_true, if_false, Nat.shiftLeft_eq]
  have e52 : ((52 : Nat) : Int) = 52 := rfl
  rw [e52]
  rfl

theorem units_of_parts (E u : Nat) (hE : 1 ≤ E) (h1 : 2 ^ 52 ≤ u) (h2 : u < 2 ^ 53) : unitsOf (E * 2 ^ 52 + u) = u * 2 ^ E := by
  unfold unitsOf
  have h3 : ¬ (E * 2 ^ 52 + u < 2 ^ 52) := by omega
  rw [if_neg h3]
  have h4 : (E * 2 ^ 52 + u) / 2 ^ 52 = E + 1 := by omega
  have h5 : (E * 2 ^ 52 + u) % 2 ^ 52 = u - 2 ^ 52 := by omega
  rw [h4, h5, Nat.add_sub_cancel, Nat.add_sub_of_le h1]
theorem units_small (u : Nat) (h : u < 2 ^ 53) : unitsOf u = u := by
  unfold unitsOf
  split
  · rfl
  · have h1 : u / 2 ^ 52 = 1 := by omega
    rw [h1]
    omega

/-- A number that is m * 2 ^ k with m below 2 ^ 53 is written exactly. -/
theorem nearest_exact (M m k : Nat) (place : Int) (hM : M = m * 2 ^ k) (h0 : M ≠ 0) (h53 : m < 2 ^ 53) (hp : -1074 ≤ place) (hl : place + M.log2 ≤ 900) :
    unitsOf (double.nearest false M place) = M * 2 ^ (place + 1074).toNat ∧ double.nearest false M place < 2047 * 2 ^ 52 := by
  rw [nearest_eq M place h0]
  obtain ⟨L, hL⟩ : ∃ L, L = M.log2 := ⟨_, rfl⟩
  have hlo : 2 ^ L ≤ M := hL ▸ Nat.log2_self_le h0
  have hhi : M < 2 ^ (L + 1) := hL ▸ Nat.lt_log2_self
  rw [← hL] at hl ⊢
  by_cases hs : place + L - 52 ≤ -1074
  · rw [show max (place + (L : Int) - 52) (-1074) = -1074 by omega]
    have e2 : (place - -1074).toNat = (place + 1074).toNat := by omega
    have e3 : (-1074 - place).toNat = 0 := by omega
    rw [e2, e3, cut_zero, show ((-1074 : Int) + 1074).toNat = 0 from rfl, Nat.zero_mul, Nat.zero_add]
    have hk : M * 2 ^ (place + 1074).toNat < 2 ^ 53 := by
      calc M * 2 ^ (place + 1074).toNat < 2 ^ (L + 1) * 2 ^ (place + 1074).toNat := Nat.mul_lt_mul_of_pos_right hhi (Nat.two_pow_pos _)
        _ = 2 ^ (L + 1 + (place + 1074).toNat) := by rw [← Nat.pow_add]
        _ ≤ 2 ^ 53 := Nat.pow_le_pow_right (by decide) (by omega)
    rw [Nat.min_eq_left (by omega)]
    exact ⟨units_small _ hk, by omega⟩
  · rw [show max (place + (L : Int) - 52) (-1074) = place + L - 52 by omega]
    obtain ⟨E, hE⟩ : ∃ E, E = (place + (L : Int) - 52 + 1074).toNat := ⟨_, rfl⟩
    have hE1 : 1 ≤ E := by omega
    have hE2 : E ≤ 2000 := by omega
    rw [← hE]
    have key : ∀ u, 2 ^ 52 ≤ u → u < 2 ^ 53 → u * 2 ^ E = M * 2 ^ (place + 1074).toNat → unitsOf (min (E * 2 ^ 52 + u) (2047 * 2 ^ 52)) = M * 2 ^ (place + 1074).toNat ∧ min (E * 2 ^ 52 + u) (2047 * 2 ^ 52) < 2047 * 2 ^ 52 := by
      intro u h1 h2 h3
      rw [Nat.min_eq_left (by omega)]
      exact ⟨(units_of_parts E u hE1 h1 h2).trans h3, by omega⟩
    by_cases hs2 : L ≤ 52
    · have e2 : (place - (place + (L : Int) - 52)).toNat = 52 - L := by omega
      have e3 : (place + (L : Int) - 52 - place).toNat = 0 := by omega
      rw [e2, e3, cut_zero]
      refine key _ ?_ ?_ ?_
      · calc 2 ^ 52 = 2 ^ L * 2 ^ (52 - L) := by rw [← Nat.pow_add]; congr 1; omega
          _ ≤ M * 2 ^ (52 - L) := Nat.mul_le_mul_right _ hlo
      · calc M * 2 ^ (52 - L) < 2 ^ (L + 1) * 2 ^ (52 - L) := Nat.mul_lt_mul_of_pos_right hhi (Nat.two_pow_pos _)
          _ = 2 ^ 53 := by rw [← Nat.pow_add]; congr 1; omega
      · rw [Nat.mul_assoc, ← Nat.pow_add]
        congr 2
        omega
    · have e2 : (place - (place + (L : Int) - 52)).toNat = 0 := by omega
      have e3 : (place + (L : Int) - 52 - place).toNat = L - 52 := by omega
      rw [e2, e3, Nat.pow_zero, Nat.mul_one]
      have hkL : L - 52 ≤ k := by
        have h1 : 2 ^ L < 2 ^ (53 + k) := by
          calc 2 ^ L ≤ M := hlo
            _ < 2 ^ 53 * 2 ^ k := by rw [hM]; exact Nat.mul_lt_mul_of_pos_right h53 (Nat.two_pow_pos _)
            _ = 2 ^ (53 + k) := by rw [← Nat.pow_add]
        have := (Nat.pow_lt_pow_iff_right (by decide : 1 < 2)).1 h1
        omega
      have hdvd : M % 2 ^ (L - 52) = 0 := by
        have e : (2 : Nat) ^ k = 2 ^ (L - 52) * 2 ^ (k - (L - 52)) := by rw [← Nat.pow_add]; congr 1; omega
        rw [hM, e, Nat.mul_left_comm, Nat.mul_mod_right]
      rw [cut_even_div _ _ _ hdvd]
      have hdiv : M / 2 ^ (L - 52) * 2 ^ (L - 52) = M := Nat.div_mul_cancel (Nat.dvd_of_mod_eq_zero hdvd)
      refine key _ ?_ ?_ ?_
      · rw [Nat.le_div_iff_mul_le (Nat.two_pow_pos _), ← Nat.pow_add]
        rw [show 52 + (L - 52) = L by omega]; exact hlo
      · rw [Nat.div_lt_iff_lt_mul (Nat.two_pow_pos _), ← Nat.pow_add]
        rw [show 53 + (L - 52) = L + 1 by omega]; exact hhi
      · have e : (2 : Nat) ^ E = 2 ^ (L - 52) * 2 ^ (place + 1074).toNat := by rw [← Nat.pow_add]; congr 1; omega
        rw [e, ← Nat.mul_assoc, hdiv]

/-- The same by its units. -/
theorem write_exact (S m k : Nat) (base : Int) (hb : -1074 ≤ base) (hU : S * 2 ^ (base + 1074).toNat = m * 2 ^ k) (h53 : m < 2 ^ 53) (hk : k ≤ 1900) :
    unitsOf (double.write (.number false S base)) = m * 2 ^ k ∧ double.write (.number false S base) < 2047 * 2 ^ 52 := by
  show unitsOf (double.nearest false S base) = m * 2 ^ k ∧ double.nearest false S base < 2047 * 2 ^ 52
  by_cases h0 : S = 0
  · subst h0
    have e : double.nearest false 0 base = 0 := rfl
    rw [e, ← hU, Nat.zero_mul]
    exact ⟨rfl, by decide⟩
  · have hl : base + S.log2 ≤ 900 := by
      have h1 : 2 ^ S.log2 ≤ S := Nat.log2_self_le h0
      have h2 : 2 ^ (S.log2 + (base + 1074).toNat) < 2 ^ (53 + k) := by
        rw [Nat.pow_add, Nat.pow_add]
        exact Nat.lt_of_le_of_lt (Nat.mul_le_mul_right _ h1) (hU ▸ Nat.mul_lt_mul_of_pos_right h53 (Nat.two_pow_pos k))
      have := (Nat.pow_lt_pow_iff_right (by decide : 1 < 2)).1 h2
      omega
    rw [← hU]
    by_cases hkb : (base + 1074).toNat ≤ k
    · have e : S = m * 2 ^ (k - (base + 1074).toNat) := by
        have e1 : m * 2 ^ k = m * 2 ^ (k - (base + 1074).toNat) * 2 ^ (base + 1074).toNat := by
          rw [Nat.mul_assoc, ← Nat.pow_add]; congr 2; omega
        exact Nat.eq_of_mul_eq_mul_right (Nat.two_pow_pos _) (hU.trans e1)
      exact nearest_exact S m _ base e h0 h53 hb hl
    · have e : S * 2 ^ ((base + 1074).toNat - k) = m := by
        have e1 : S * 2 ^ (base + 1074).toNat = S * 2 ^ ((base + 1074).toNat - k) * 2 ^ k := by
          rw [Nat.mul_assoc, ← Nat.pow_add]; congr 2; omega
        exact Nat.eq_of_mul_eq_mul_right (Nat.two_pow_pos k) (e1.symm.trans hU)
      have hle : S ≤ m := by
        rw [← e]; exact Nat.le_mul_of_pos_right _ (Nat.two_pow_pos _)
      exact nearest_exact S S 0 base (by simp) h0 (by omega) hb hl
end Ieee
