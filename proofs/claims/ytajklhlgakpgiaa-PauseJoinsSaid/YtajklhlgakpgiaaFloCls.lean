/-
  Every double is no number, not above 0, at least 2^40, or a positive one below that (plain, no program).
-/
import Derived.Test.YtajklhlgakpgiaaFloWh
namespace Ieee
theorem cmp_self (x : Int) : compare x x = Ordering.eq := by rw [cmp_int]; simp
theorem order_self (d : Datum) (h : d.isNaN = false) : d.order d = some .eq := by
  cases d with
  | number s m i => simp only [Datum.order, Int.min_self, cmp_self]
  | infinity s => cases s <;> rfl
  | nan s t => simp [Datum.isNaN] at h
theorem order_nan (x y : Nat) (h : (double.read x).isNaN = true) : double.order x y = none := by
  unfold Format.order
  generalize double.read x = d at *
  cases d <;> simp [Datum.isNaN] at h
  rfl

/-- What Whole asks of a double. -/
inductive Cls (b : Nat) : Prop
  | nan (h1 : double.order b b = none) (h2 : double.order b 0 = none)
  | low (h1 : double.order b b = some .eq) (h2 : double.order b 0 = some .lt ∨ double.order b 0 = some .eq)
  | high (h1 : double.order b b = some .eq) (h2 : double.order b 0 = some .gt) (h3 : double.order b 4787326403894837248 = some .gt ∨ double.order b 4787326403894837248 = some .eq)
  | mid (h1 : 0 < b) (h2 : b < 1063 * 2 ^ 52)

theorem read_zero : double.read 0 = .number false 0 (-1074) := by decide
theorem classify (b : Nat) (hb : b < 2 ^ 64) : Cls b := by
  have e0 : double.leastPlace = -1074 := by decide
  have e2 : double.binade = 2 ^ 52 := rfl
  have e3 : double.infRung = 2047 * 2 ^ 52 := by decide
  have e4 : double.signWeight = 2 ^ 63 := rfl
  by_cases hN : (double.read b).isNaN = true
  · exact .nan (order_nan b b hN) (order_nan b 0 hN)
  have hN' : (double.read b).isNaN = false := by simpa using hN
  have hs : double.order b b = some .eq := order_self _ hN'
  by_cases hneg : b / 2 ^ 63 % 2 = 1
  · refine .low hs ?_
    unfold Format.order
    rw [read_zero]
    unfold Format.read at hN' ⊢
    rw [e0, e2, e3, e4] at hN' ⊢
    have hg : (b / 2 ^ 63 % 2 == 1) = true := by simp [hneg]
    rw [hg] at hN' ⊢
    simp only at hN' ⊢
    split
    · simp only [Datum.order, signed, if_true, Bool.false_eq_true, if_false, Nat.shiftLeft_eq, Nat.zero_mul, cmp_int]
      split
      · exact Or.inl rfl
      · split
        · exact Or.inr rfl
        · omega
    · split
      · simp only [Datum.order, signed, if_true, Bool.false_eq_true, if_false, Nat.shiftLeft_eq, Nat.zero_mul, cmp_int]
        split
        · exact Or.inl rfl
        · split
          · exact Or.inr rfl
          · omega
      · split
        · exact Or.inl rfl
        · rename_i h1 h2 h3
          rw [if_neg h1, if_neg h2, if_neg h3] at hN'
          simp [Datum.isNaN] at hN'
  · have hlt : b < 2 ^ 63 := by omega
    by_cases hz : b = 0
    · subst hz
      exact .low hs (Or.inr (by decide))
    by_cases hm : b < 1063 * 2 ^ 52
    · exact .mid (by omega) hm
    by_cases hf : b < 2047 * 2 ^ 52
    · refine .high hs ?_ ?_
      · rw [order_rung b 0 hf (by decide), if_neg (by omega), if_neg (by omega)]
      · rw [order_rung b _ hf (by decide), if_neg (by omega)]
        split
        · exact Or.inr rfl
        · exact Or.inl rfl
    · have hinf : double.read b = .infinity false := by
        unfold Format.read at hN' ⊢
        rw [e0, e2, e3, e4] at hN' ⊢
        have hg : (b / 2 ^ 63 % 2 == 1) = false := by simp; omega
        have hr : b % 2 ^ 63 = b := by omega
        rw [hg, hr] at hN' ⊢
        simp only at hN' ⊢
        rw [if_neg (by omega), if_neg hf] at hN' ⊢
        split
        · rfl
        · rename_i h1
          rw [if_neg h1] at hN'
          simp [Datum.isNaN] at hN'
      have h0 : ∀ y, y < 2047 * 2 ^ 52 → double.order b y = some .gt := by
        intro y hy
        unfold Format.order
        rw [hinf]
        obtain ⟨m, i, e, _⟩ := read_units y hy
        rw [e]
        rfl
      exact .high hs (h0 0 (by decide)) (Or.inl (h0 _ (by decide)))
end Ieee
