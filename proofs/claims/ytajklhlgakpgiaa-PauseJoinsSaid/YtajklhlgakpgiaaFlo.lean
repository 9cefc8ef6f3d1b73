/-
  Doubles as rungs: what a positive one stands for, in units of the least place; a number of at most 53 digits is written exactly.
-/
import Ieee.Arith
import Derived.Laws.FloatBits
namespace Ieee
theorem log2_lt {m k : Nat} (hm : m ≠ 0) (h : m < 2 ^ k) : m.log2 < k := (Nat.log2_lt hm).2 h
theorem log2_le_self' {m : Nat} (hm : m ≠ 0) : 2 ^ m.log2 ≤ m := Nat.log2_self_le hm

theorem cut_zero (neg : Bool) (n : Nat) : Toward.even.cut neg n 0 = n := by
  unfold Toward.cut
  simp [Nat.mod_one]

/-- A number of at most 53 digits, at a place that is one of the format's, is written exactly: its rung. -/
theorem nearest_small (m : Nat) (place : Int) (hm : m ≠ 0) (h53 : m < 2 ^ 53) (hp : -1074 ≤ place) (hp0 : place ≤ 0) :
    double.nearest false m place = (max (place + m.log2 - 52) (-1074) + 1074).toNat * 2 ^ 52 + m * 2 ^ (place - max (place + m.log2 - 52) (-1074)).toNat := by
  have hl := log2_lt hm h53
  have e0 : double.leastPlace = -1074 := by decide
  have e1 : double.fractionBits = 52 := rfl
  have e2 : double.binade = 2 ^ 52 := rfl
  have e3 : double.infRung = 2047 * 2 ^ 52 := by decide
  unfold Format.nearest
  rw [if_neg hm, e0, e1, e2, e3]
  simp only [Format.word, Bool.false_eq_true, if_false]
  have e52 : ((52 : Nat) : Int) = 52 := rfl
  rw [e52]
  have hlast : max (place + (m.log2 : Int) - 52) (-1074) ≤ place := by omega
  have hd : (max (place + (m.log2 : Int) - 52) (-1074) - place).toNat = 0 := by omega
  rw [hd, cut_zero, Nat.shiftLeft_eq]
  have hk : m * 2 ^ (place - max (place + (m.log2 : Int) - 52) (-1074)).toNat < 2 ^ 53 := by
    have h1 : m < 2 ^ (m.log2 + 1) := Nat.lt_log2_self
    have h2 : m.log2 + 1 + (place - max (place + (m.log2 : Int) - 52) (-1074)).toNat ≤ 53 := by omega
    calc m * 2 ^ (place - max (place + (m.log2 : Int) - 52) (-1074)).toNat < 2 ^ (m.log2 + 1) * 2 ^ (place - max (place + (m.log2 : Int) - 52) (-1074)).toNat := Nat.mul_lt_mul_of_pos_right h1 (Nat.two_pow_pos _)
      _ = 2 ^ (m.log2 + 1 + (place - max (place + (m.log2 : Int) - 52) (-1074)).toNat) := by rw [← Nat.pow_add]
      _ ≤ 2 ^ 53 := Nat.pow_le_pow_right (by decide) h2
  rw [Nat.min_eq_left]
  · congr 2
  · have h3 : (max (place + (m.log2 : Int) - 52) (-1074) - -1074).toNat ≤ 1074 := by omega
    omega
end Ieee

namespace Ieee
/-- The rung of a number's value at the least place: what 'read' of a finite positive word stands for, in units of 2 ^ -1074. -/
def unitsOf (rung : Nat) : Nat := if rung < 2 ^ 52 then rung else (2 ^ 52 + rung % 2 ^ 52) * 2 ^ (rung / 2 ^ 52 - 1)
theorem read_rung (rung : Nat) (h : rung < 2047 * 2 ^ 52) : double.read rung = if rung < 2 ^ 52 then .number false rung (-1074) else .number false (2 ^ 52 + rung % 2 ^ 52) (-1074 + ((rung / 2 ^ 52 - 1 : Nat) : Int)) := by
  have e0 : double.leastPlace = -1074 := by decide
  have e2 : double.binade = 2 ^ 52 := rfl
  have e3 : double.infRung = 2047 * 2 ^ 52 := by decide
  have e4 : double.signWeight = 2 ^ 63 := rfl
  unfold Format.read
  rw [e0, e2, e3, e4]
  have h1 : rung / 2 ^ 63 % 2 = 0 := by omega
  have h2 : rung % 2 ^ 63 = rung := by omega
  simp only [h1, h2]
  split
  · rfl
  · rfl

/-- The units of the rung that a small number is written to: the number's own. -/
theorem units_nearest (m : Nat) (place : Int) (hm : m ≠ 0) (h53 : m < 2 ^ 53) (hp : -1074 ≤ place) (hp0 : place ≤ 0) :
    unitsOf (double.nearest false m place) = m * 2 ^ (place + 1074).toNat := by
  rw [nearest_small m place hm h53 hp hp0]
  by_cases hs : place + m.log2 - 52 ≤ -1074
  · have e : max (place + (m.log2 : Int) - 52) (-1074) = -1074 := by omega
    rw [e]
    have hk : m * 2 ^ (place - -1074).toNat < 2 ^ 53 := by
      have h1 : m < 2 ^ (m.log2 + 1) := Nat.lt_log2_self
      calc m * 2 ^ (place - -1074).toNat < 2 ^ (m.log2 + 1) * 2 ^ (place - -1074).toNat := Nat.mul_lt_mul_of_pos_right h1 (Nat.two_pow_pos _)
        _ = 2 ^ (m.log2 + 1 + (place - -1074).toNat) := by rw [← Nat.pow_add]
        _ ≤ 2 ^ 53 := Nat.pow_le_pow_right (by decide) (by omega)
    have e2 : (place - -1074).toNat = (place + 1074).toNat := by omega
    rw [e2] at hk ⊢
    generalize m * 2 ^ (place + 1074).toNat = u at *
    have e3 : ((-1074 : Int) + 1074).toNat = 0 := rfl
    rw [e3, Nat.zero_mul, Nat.zero_add]
    unfold unitsOf
    split
    · rfl
    · have h1 : u / 2 ^ 52 = 1 := by omega
      rw [h1]
      omega
  · have e : max (place + (m.log2 : Int) - 52) (-1074) = place + m.log2 - 52 := by omega
    rw [e]
    have e2 : (place - (place + (m.log2 : Int) - 52)).toNat = 52 - m.log2 := by omega
    have hl := log2_lt hm h53
    rw [e2]
    have hlo : 2 ^ 52 ≤ m * 2 ^ (52 - m.log2) := by
      calc 2 ^ 52 = 2 ^ m.log2 * 2 ^ (52 - m.log2) := by rw [← Nat.pow_add]; congr 1; omega
        _ ≤ m * 2 ^ (52 - m.log2) := Nat.mul_le_mul_right _ (log2_le_self' hm)
    have hhi : m * 2 ^ (52 - m.log2) < 2 ^ 53 := by
      calc m * 2 ^ (52 - m.log2) < 2 ^ (m.log2 + 1) * 2 ^ (52 - m.log2) := Nat.mul_lt_mul_of_pos_right Nat.lt_log2_self (Nat.two_pow_pos _)
        _ = 2 ^ 53 := by rw [← Nat.pow_add]; congr 1; omega
    have e3 : (place + 1074).toNat = (52 - m.log2) + (place + (m.log2 : Int) - 52 + 1074).toNat := by omega
    rw [e3, Nat.pow_add, ← Nat.mul_assoc]
    generalize m * 2 ^ (52 - m.log2) = u at *
    generalize hE : (place + (m.log2 : Int) - 52 + 1074).toNat = E at *
    have hE1 : 1 ≤ E := by omega
    unfold unitsOf
    have h1 : ¬ (E * 2 ^ 52 + u < 2 ^ 52) := by omega
    rw [if_neg h1]
    have h2 : (E * 2 ^ 52 + u) / 2 ^ 52 = E + 1 := by omega
    have h3 : (E * 2 ^ 52 + u) % 2 ^ 52 = u - 2 ^ 52 := by omega
    rw [h2, h3, Nat.add_sub_cancel, Nat.add_sub_of_le hlo]
/-- .. and that rung is finite. -/
theorem nearest_fin (m : Nat) (place : Int) (hm : m ≠ 0) (h53 : m < 2 ^ 53) (hp : -1074 ≤ place) (hp0 : place ≤ 0) : double.nearest false m place < 2047 * 2 ^ 52 := by
  rw [nearest_small m place hm h53 hp hp0]
  have hl := log2_lt hm h53
  have hk : m * 2 ^ (place - max (place + (m.log2 : Int) - 52) (-1074)).toNat < 2 ^ 53 := by
    calc m * 2 ^ (place - max (place + (m.log2 : Int) - 52) (-1074)).toNat < 2 ^ (m.log2 + 1) * 2 ^ (place - max (place + (m.log2 : Int) - 52) (-1074)).toNat := Nat.mul_lt_mul_of_pos_right Nat.lt_log2_self (Nat.two_pow_pos _)
      _ = 2 ^ (m.log2 + 1 + (place - max (place + (m.log2 : Int) - 52) (-1074)).toNat) := by rw [← Nat.pow_add]
      _ ≤ 2 ^ 53 := Nat.pow_le_pow_right (by decide) (by omega)
  have h3 : (max (place + (m.log2 : Int) - 52) (-1074) + 1074).toNat ≤ 1074 := by omega
  omega
end Ieee

namespace Ieee
theorem units_lt_binade (r : Nat) (h : r < 2 ^ 52) : unitsOf r = r := by unfold unitsOf; rw [if_pos h]
theorem units_step (r : Nat) : unitsOf r < unitsOf (r + 1) := by
  unfold unitsOf
  by_cases h : r < 2 ^ 52
  · rw [if_pos h]
    by_cases h2 : r + 1 < 2 ^ 52
    · rw [if_pos h2]; omega
    · rw [if_neg h2]
      have e1 : (r + 1) / 2 ^ 52 = 1 := by omega
      have e2 : (r + 1) % 2 ^ 52 = 0 := by omega
      rw [e1, e2]; omega
  · rw [if_neg h, if_neg (by omega)]
    by_cases h3 : r % 2 ^ 52 + 1 < 2 ^ 52
    · have e1 : (r + 1) / 2 ^ 52 = r / 2 ^ 52 := by omega
      have e2 : (r + 1) % 2 ^ 52 = r % 2 ^ 52 + 1 := by omega
      rw [e1, e2]
      exact Nat.mul_lt_mul_of_pos_right (by omega) (Nat.two_pow_pos _)
    · have e1 : (r + 1) / 2 ^ 52 = r / 2 ^ 52 + 1 := by omega
      have e2 : (r + 1) % 2 ^ 52 = 0 := by omega
      rw [e1, e2]
      have e3 : r / 2 ^ 52 + 1 - 1 = (r / 2 ^ 52 - 1) + 1 := by omega
      have e4 : 2 ^ (r / 2 ^ 52 - 1 + 1) = 2 ^ (r / 2 ^ 52 - 1) * 2 := Nat.pow_succ _ _
      rw [e3, e4]
      have hp := Nat.two_pow_pos (r / 2 ^ 52 - 1)
      generalize 2 ^ (r / 2 ^ 52 - 1) = q at *
      have h4 : 2 ^ 52 + r % 2 ^ 52 < 2 ^ 53 := by omega
      calc (2 ^ 52 + r % 2 ^ 52) * q < 2 ^ 53 * q := Nat.mul_lt_mul_of_pos_right h4 hp
        _ = (2 ^ 52 + 0) * (q * 2) := by omega
theorem units_mono {a b : Nat} (h : a < b) : unitsOf a < unitsOf b := by
  induction h with
  | refl => exact units_step a
  | step _ ih => exact Nat.lt_trans ih (units_step _)
theorem units_inj {a b : Nat} (h : unitsOf a = unitsOf b) : a = b := by
  rcases Nat.lt_trichotomy a b with c | c | c
  · have := units_mono c; omega
  · exact c
  · have := units_mono c; omega
end Ieee
