/-
  Doubles: '+', '-' and '*' where the answer is one of the format's (plain, no program).
-/
import Derived.Test.YtajklhlgakpgiaaFloEx
import Derived.Test.YtajklhlgakpgiaaFloOrd
namespace Ieee
theorem fin_of (q a : Nat) (hq : q ≤ 2046) (h : a < (q + 1) * 2 ^ 52) : a < 2047 * 2 ^ 52 := Nat.lt_of_lt_of_le h (Nat.mul_le_mul_right _ (by omega))
theorem units_ones (E : Nat) (hE : 1 ≤ E) : unitsOf (E * 2 ^ 52 + (2 ^ 53 - 1)) = (2 ^ 53 - 1) * 2 ^ E := units_of_parts E (2 ^ 53 - 1) hE (by omega) (by omega)
theorem units_two (E : Nat) (hE : 1 ≤ E) : unitsOf ((E + 1) * 2 ^ 52) = 2 ^ 52 * 2 ^ E := by
  have := units_of_parts E (2 ^ 52) hE (by omega) (by omega)
  rw [show E * 2 ^ 52 + 2 ^ 52 = (E + 1) * 2 ^ 52 by omega] at this
  exact this
theorem ones_pow (E : Nat) (x y : Nat) (hx : x ≤ (2 ^ 53 - 1) * 2 ^ E) (hy : y ≤ (2 ^ 53 - 1) * 2 ^ E) : x + y ≤ (2 ^ 53 - 1) * 2 ^ (E + 1) := by
  rw [Nat.pow_succ]
  omega
theorem add_exact (a b m k : Nat) (ha : a < 2047 * 2 ^ 52) (hb : b < 2047 * 2 ^ 52) (hU : unitsOf a + unitsOf b = m * 2 ^ k) (h53 : m < 2 ^ 53) (hk : k ≤ 1900) :
    ∃ c, double.add a b = some c ∧ unitsOf c = m * 2 ^ k ∧ c < 2047 * 2 ^ 52 := by
  obtain ⟨x, i, e1, hi, u1⟩ := read_units a ha
  obtain ⟨y, j, e2, hj, u2⟩ := read_units b hb
  have f1 : unitsOf a = (x * 2 ^ (i - min i j).toNat) * 2 ^ (min i j + 1074).toNat := by
    rw [u1, Nat.mul_assoc, ← Nat.pow_add]; congr 2; omega
  have f2 : unitsOf b = (y * 2 ^ (j - min i j).toNat) * 2 ^ (min i j + 1074).toNat := by
    rw [u2, Nat.mul_assoc, ← Nat.pow_add]; congr 2; omega
  unfold Format.add
  rw [e1, e2]
  simp only [Datum.sum, Option.map_some, signed, Bool.false_eq_true, if_false, Nat.shiftLeft_eq]
  rw [f1, f2, ← Nat.add_mul] at hU
  generalize x * 2 ^ (i - min i j).toNat = X at *
  generalize y * 2 ^ (j - min i j).toNat = Y at *
  have hs : (if ((X : Int) + (Y : Int) = 0) then (false && false) else decide ((X : Int) + (Y : Int) < 0)) = false := by
    split
    · rfl
    · simp; omega
  have hn : ((X : Int) + (Y : Int)).natAbs = X + Y := by omega
  rw [hs, hn]
  exact ⟨_, rfl, write_exact (X + Y) m k (min i j) (by omega) hU h53 hk⟩
theorem sub_exact (a b m k : Nat) (ha : a < 2047 * 2 ^ 52) (hb : b < 2047 * 2 ^ 52) (hU : unitsOf a = unitsOf b + m * 2 ^ k) (h53 : m < 2 ^ 53) (hk : k ≤ 1900) :
    ∃ c, double.sub a b = some c ∧ unitsOf c = m * 2 ^ k ∧ c < 2047 * 2 ^ 52 := by
  obtain ⟨x, i, e1, hi, u1⟩ := read_units a ha
  obtain ⟨y, j, e2, hj, u2⟩ := read_units b hb
  have f1 : unitsOf a = (x * 2 ^ (i - min i j).toNat) * 2 ^ (min i j + 1074).toNat := by
    rw [u1, Nat.mul_assoc, ← Nat.pow_add]; congr 2; omega
  have f2 : unitsOf b = (y * 2 ^ (j - min i j).toNat) * 2 ^ (min i j + 1074).toNat := by
    rw [u2, Nat.mul_assoc, ← Nat.pow_add]; congr 2; omega
  unfold Format.sub
  rw [e1, e2]
  simp only [Datum.opposite, Datum.sum, Option.map_some, signed, Bool.not_false, if_true, Bool.false_eq_true, if_false, Nat.shiftLeft_eq]
  have hle : unitsOf b ≤ unitsOf a := by omega
  have hsub : unitsOf a - unitsOf b = m * 2 ^ k := by omega
  rw [f1, f2] at hle
  rw [f1, f2, ← Nat.sub_mul] at hsub
  have hXY : y * 2 ^ (j - min i j).toNat ≤ x * 2 ^ (i - min i j).toNat := Nat.le_of_mul_le_mul_right hle (Nat.two_pow_pos _)
  generalize x * 2 ^ (i - min i j).toNat = X at *
  generalize y * 2 ^ (j - min i j).toNat = Y at *
  have hs : (if ((X : Int) + -(Y : Int) = 0) then (false && true) else decide ((X : Int) + -(Y : Int) < 0)) = false := by
    split
    · rfl
    · simp; omega
  have hn : ((X : Int) + -(Y : Int)).natAbs = X - Y := by omega
  rw [hs, hn]
  exact ⟨_, rfl, write_exact (X - Y) m k (min i j) (by omega) hsub h53 hk⟩

/-- The sum of two doubles below 1 is a double below 2. -/
theorem add_two (p q a b : Nat) (hp1 : 1 ≤ p) (hq : q = p + 1) (hq2 : q ≤ 1500) (ha : a < (q + 1) * 2 ^ 52) (hb : b < (q + 1) * 2 ^ 52) : ∃ c, double.add a b = some c ∧ c < (q + 2) * 2 ^ 52 := by
  obtain ⟨x, i, e1, hi, u1⟩ := read_units a (fin_of q a (by omega) ha)
  obtain ⟨y, j, e2, hj, u2⟩ := read_units b (fin_of q b (by omega) hb)
  have f1 : unitsOf a = (x * 2 ^ (i - min i j).toNat) * 2 ^ (min i j + 1074).toNat := by
    rw [u1, Nat.mul_assoc, ← Nat.pow_add]; congr 2; omega
  have f2 : unitsOf b = (y * 2 ^ (j - min i j).toNat) * 2 ^ (min i j + 1074).toNat := by
    rw [u2, Nat.mul_assoc, ← Nat.pow_add]; congr 2; omega
  have top : ∀ r, r < (q + 1) * 2 ^ 52 → unitsOf r ≤ (2 ^ 53 - 1) * 2 ^ p := by
    intro r hr
    have e := units_ones p hp1
    rw [← e]
    rcases Nat.lt_or_eq_of_le (show r ≤ p * 2 ^ 52 + (2 ^ 53 - 1) by omega) with c | c
    · exact Nat.le_of_lt (units_mono c)
    · rw [c]; exact Nat.le_refl _
  have hU : unitsOf a + unitsOf b ≤ (2 ^ 53 - 1) * 2 ^ q := hq ▸ ones_pow p _ _ (top a ha) (top b hb)
  clear top
  unfold Format.add
  rw [e1, e2]
  simp only [Datum.sum, Option.map_some, signed, Bool.false_eq_true, if_false, Nat.shiftLeft_eq]
  rw [f1, f2, ← Nat.add_mul] at hU
  generalize x * 2 ^ (i - min i j).toNat = X at *
  generalize y * 2 ^ (j - min i j).toNat = Y at *
  have hs : (if ((X : Int) + (Y : Int) = 0) then (false && false) else decide ((X : Int) + (Y : Int) < 0)) = false := by
    split
    · rfl
    · simp; omega
  have hn : ((X : Int) + (Y : Int)).natAbs = X + Y := by omega
  rw [hs, hn]
  refine ⟨_, rfl, ?_⟩
  show double.nearest false (X + Y) (min i j) < (q + 2) * 2 ^ 52
  have hp : -1074 ≤ min i j := by omega
  clear f1 f2 u1 u2 hs hn e1 e2
  generalize min i j = place at *
  generalize X + Y = M at *
  by_cases h0 : M = 0
  · subst h0
    have e : double.nearest false 0 place = 0 := rfl
    rw [e]
    omega
  have hL0 : 2 ^ M.log2 ≤ M := Nat.log2_self_le h0
  have hL1 : M < 2 ^ (M.log2 + 1) := Nat.lt_log2_self
  obtain ⟨L, hL⟩ : ∃ L, L = M.log2 := ⟨_, rfl⟩
  rw [← hL] at hL0 hL1
  have hl : place + L ≤ (q : Int) - 1022 := by
    have h2 : 2 ^ (L + (place + 1074).toNat) < 2 ^ (q + 53) := by
      rw [Nat.pow_add]
      refine Nat.lt_of_le_of_lt (Nat.le_trans (Nat.mul_le_mul_right _ hL0) hU) ?_
      have e : ∀ q : Nat, (2 ^ 53 - 1) * 2 ^ q < 2 ^ (q + 53) := fun q => by
        rw [Nat.pow_add, Nat.mul_comm (2 ^ q)]
        exact Nat.mul_lt_mul_of_pos_right (by decide) (Nat.two_pow_pos _)
      exact e q
    have := (Nat.pow_lt_pow_iff_right (by decide : 1 < 2)).1 h2
    omega
  by_cases hs : L ≤ 52
  · obtain ⟨h1, h2⟩ := nearest_exact M M 0 place (by simp) h0 (Nat.lt_of_lt_of_le hL1 (Nat.pow_le_pow_right (by decide) (by omega))) hp (by omega)
    rw [← h1] at hU
    have e := units_ones q (by omega)
    rw [← e] at hU
    refine Nat.lt_of_not_le fun hc => ?_
    have := units_mono (show q * 2 ^ 52 + (2 ^ 53 - 1) < double.nearest false M place by omega)
    omega
  · rw [nearest_eq M place h0, ← hL]
    rw [show max (place + (L : Int) - 52) (-1074) = place + L - 52 by omega]
    have e2 : (place - (place + (L : Int) - 52)).toNat = 0 := by omega
    have e3 : (place + (L : Int) - 52 - place).toNat = L - 52 := by omega
    rw [e2, e3, Nat.pow_zero, Nat.mul_one]
    refine Nat.lt_of_le_of_lt (Nat.min_le_left _ _) ?_
    by_cases hz : place + L = (q : Int) - 1022
    · have hk : Toward.even.cut false M (L - 52) ≤ 2 ^ 53 - 1 := by
        refine cut_even_le _ _ _ ?_
        have e : (2 : Nat) ^ q = 2 ^ (L - 52) * 2 ^ (place + 1074).toNat := by rw [← Nat.pow_add]; congr 1; omega
        rw [e, ← Nat.mul_assoc] at hU
        exact Nat.le_of_mul_le_mul_right hU (Nat.two_pow_pos _)
      omega
    · have hk : Toward.even.cut false M (L - 52) ≤ 2 ^ 53 := by
        refine cut_even_le _ _ _ ?_
        rw [← Nat.pow_add, show 53 + (L - 52) = L + 1 by omega]
        exact Nat.le_of_lt hL1
      omega

theorem add_below (a b : Nat) (ha : a < 1023 * 2 ^ 52) (hb : b < 1023 * 2 ^ 52) : ∃ c, double.add a b = some c ∧ c < 1024 * 2 ^ 52 := add_two 1021 1022 a b (by omega) rfl (by omega) ha hb

theorem units_one : unitsOf (1023 * 2 ^ 52) = 2 ^ 52 * 2 ^ 1022 := units_two 1022 (by omega)
theorem sub_two (E c : Nat) (hE : 1 ≤ E) (hE2 : E ≤ 1500) (h1 : (E + 1) * 2 ^ 52 ≤ c) (h2 : c < (E + 2) * 2 ^ 52) : ∃ d, double.sub c ((E + 1) * 2 ^ 52) = some d ∧ d < (E + 1) * 2 ^ 52 := by
  obtain ⟨u, hu⟩ : ∃ u, u = c - E * 2 ^ 52 := ⟨_, rfl⟩
  have e := units_of_parts E u hE (by omega) (by omega)
  rw [show E * 2 ^ 52 + u = c by omega] at e
  have hlt : (u - 2 ^ 52) * 2 ^ E < 2 ^ 52 * 2 ^ E := Nat.mul_lt_mul_of_pos_right (by omega) (Nat.two_pow_pos _)
  have g1 : c < 2047 * 2 ^ 52 := fin_of (E + 1) c (by omega) h2
  have g2 : (E + 1) * 2 ^ 52 < 2047 * 2 ^ 52 := Nat.mul_lt_mul_of_pos_right (by omega) (Nat.two_pow_pos _)
  have g3 : u - 2 ^ 52 < 2 ^ 53 := by omega
  have g4 : u = 2 ^ 52 + (u - 2 ^ 52) := by omega
  have g5 : unitsOf c = unitsOf ((E + 1) * 2 ^ 52) + (u - 2 ^ 52) * 2 ^ E := by
    rw [e, units_two E hE, ← Nat.add_mul, ← g4]
  obtain ⟨d, hd, hdu, _⟩ := sub_exact c ((E + 1) * 2 ^ 52) (u - 2 ^ 52) E g1 g2 g5 g3 (by omega)
  refine ⟨d, hd, Nat.lt_of_not_le fun hc => ?_⟩
  rw [← hdu, ← units_two E hE] at hlt
  rcases Nat.lt_or_eq_of_le hc with h | h
  · have := units_mono h; omega
  · rw [h] at hlt; omega
/-- A double in [1, 2) less 1 is a double below 1. -/
theorem sub_one (c : Nat) (h1 : 1023 * 2 ^ 52 ≤ c) (h2 : c < 1024 * 2 ^ 52) : ∃ d, double.sub c (1023 * 2 ^ 52) = some d ∧ d < 1023 * 2 ^ 52 := sub_two 1022 c (by omega) (by omega) h1 h2
end Ieee
