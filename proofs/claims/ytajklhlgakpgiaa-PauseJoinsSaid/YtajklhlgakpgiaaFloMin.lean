/-
  Doubles: brought within 0 and 1 as the builtins max and min do it (plain, no program).
-/
import Derived.Test.YtajklhlgakpgiaaFloCls
namespace Ieee
def oneF : Nat := 4607182418800017408
def maxF (q : Nat) : Nat := match double.order q 0 with | some .gt => q | some .lt => 0 | some .eq => if (double.read q).neg then 0 else q | none => 0
def minF (m : Nat) : Nat := match double.order m oneF with | some .gt => oneF | some .lt => m | some .eq => if (double.read m).neg then m else oneF | none => 0
def clampF (q : Nat) : Nat := minF (maxF q)
theorem clamp_cls (b : Nat) (hb : b < 2 ^ 64) (hN : (double.read b).isNaN = false) : b < 2047 * 2 ^ 52 ∨ double.read b = .infinity false ∨ ((double.read b).neg = true ∧ (double.order b 0 = some .lt ∨ double.order b 0 = some .eq)) := by
  have e0 : double.leastPlace = -1074 := by decide
  have e2 : double.binade = 2 ^ 52 := rfl
  have e3 : double.infRung = 2047 * 2 ^ 52 := by decide
  have e4 : double.signWeight = 2 ^ 63 := rfl
  by_cases hneg : b / 2 ^ 63 % 2 = 1
  · refine .inr (.inr ⟨?_, ?_⟩)
    · unfold Format.read
      rw [e0, e2, e3, e4]
      have hg : (b / 2 ^ 63 % 2 == 1) = true := by simp [hneg]
      rw [hg]
      simp only
      split
      · rfl
      · split
        · rfl
        · split <;> rfl
    · cases classify b hb with
      | nan h1 _ => rw [show double.order b b = some .eq from order_self _ hN] at h1; cases h1
      | low _ h2 => exact h2
      | high _ h2 _ =>
        exfalso
        unfold Format.order at h2
        rw [read_zero] at h2
        unfold Format.read at h2
        rw [e0, e2, e3, e4] at h2
        have hg : (b / 2 ^ 63 % 2 == 1) = true := by simp [hneg]
        rw [hg] at h2
        simp only at h2
        split at h2
        · simp only [Datum.order, signed, if_true, Bool.false_eq_true, if_false, Nat.shiftLeft_eq, Nat.zero_mul, cmp_int] at h2
          split at h2
          · cases h2
          · split at h2
            · cases h2
            · omega
        · split at h2
          · simp only [Datum.order, signed, if_true, Bool.false_eq_true, if_false, Nat.shiftLeft_eq, Nat.zero_mul, cmp_int] at h2
            split at h2
            · cases h2
            · split at h2
              · cases h2
              · omega
          · split at h2 <;> cases h2
      | mid _ h2 => exfalso; omega
  · by_cases hf : b < 2047 * 2 ^ 52
    · exact .inl hf
    · refine .inr (.inl ?_)
      unfold Format.read at hN ⊢
      rw [e0, e2, e3, e4] at hN ⊢
      have hg : (b / 2 ^ 63 % 2 == 1) = false := by simp; omega
      have hr : b % 2 ^ 63 = b := by omega
      rw [hg, hr] at hN ⊢
      simp only at hN ⊢
      rw [if_neg (by omega), if_neg hf] at hN ⊢
      split
      · rfl
      · rename_i h1
        rw [if_neg h1] at hN
        simp [Datum.isNaN] at hN
theorem oneF_eq : oneF = 1023 * 2 ^ 52 := by decide
theorem clampF_le (b : Nat) (hb : b < 2 ^ 64) (hN : (double.read b).isNaN = false) : clampF b ≤ 1023 * 2 ^ 52 := by
  have h00 : minF 0 = 0 := by decide
  have fin : ∀ m, m < 2047 * 2 ^ 52 → minF m ≤ 1023 * 2 ^ 52 := by
    intro m hm
    obtain ⟨x, i, e, _⟩ := read_units m hm
    unfold minF
    rw [order_rung m oneF hm (by decide), e]
    by_cases h1 : m < oneF
    · rw [if_pos h1]; have := oneF_eq; simp only; omega
    · rw [if_neg h1]
      by_cases h2 : m = oneF
      · rw [if_pos h2]; simp only [Datum.neg, Bool.false_eq_true, if_false]; exact Nat.le_of_eq oneF_eq
      · rw [if_neg h2]; exact Nat.le_of_eq oneF_eq
  unfold clampF
  rcases clamp_cls b hb hN with hf | hi | ⟨hn, ho⟩
  · have hm : maxF b = b ∨ maxF b = 0 := by
      unfold maxF
      split
      · exact .inl rfl
      · exact .inr rfl
      · split
        · exact .inr rfl
        · exact .inl rfl
      · exact .inr rfl
    rcases hm with h | h <;> rw [h]
    · exact fin b hf
    · exact fin 0 (by decide)
  · have h0 : double.order b 0 = some .gt := by unfold Format.order; rw [hi]; rfl
    have h1 : double.order b oneF = some .gt := by
      unfold Format.order
      rw [hi]
      obtain ⟨m, i, e, _⟩ := read_units oneF (by decide)
      rw [e]
      rfl
    unfold maxF
    rw [h0]
    unfold minF
    rw [h1]
    exact Nat.le_of_eq oneF_eq
  · have hm : maxF b = 0 := by
      unfold maxF
      rcases ho with h | h <;> rw [h]
      simp [hn]
    rw [hm, h00]
    exact Nat.zero_le _
theorem maxF_num (b : Nat) (hN : (double.read b).isNaN = false) : (double.read (maxF b)).isNaN = false := by
  have h0 : (double.read 0).isNaN = false := by decide
  unfold maxF
  split
  · exact hN
  · exact h0
  · split
    · exact h0
    · exact hN
  · exact h0
end Ieee
