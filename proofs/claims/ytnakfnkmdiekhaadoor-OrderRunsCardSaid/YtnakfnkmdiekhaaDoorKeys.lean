/-
  Forms of doubles, their keys, the next form: the plain laws (no program).
-/
import Derived.Test.YtnakfnkmdiekhaaDoorOrdW
namespace Ieee
def form (b : Nat) : Nat := if 9218868437227405312 < b % 9223372036854775808 then 9221120237041090560 else if b % 9223372036854775808 = 0 then 0 else b
def keyW (b : Nat) : Nat := if 9223372036854775808 ≤ form b then 18446744073709551615 - form b else form b + 9223372036854775808
def unkey (k : Nat) : Nat := if 9223372036854775808 ≤ k then k - 9223372036854775808 else 18446744073709551615 - k
def nextW (b : Nat) : Nat := if form b = 0 then 1 else if form b < 9223372036854775808 then form b + 1 else form b - 1

theorem form_lt (b : Nat) (hb : b < 18446744073709551616) : form b < 18446744073709551616 := by
  unfold form
  split
  · decide
  · split <;> omega
theorem form_form (b : Nat) : form (form b) = form b := by
  unfold form
  split
  · rfl
  · split
    · rfl
    · rfl
theorem key_lt (b : Nat) (hb : b < 18446744073709551616) : keyW b < 18446744073709551616 := by
  have := form_lt b hb
  unfold keyW
  split <;> omega
theorem unkey_lt (k : Nat) (hk : k < 18446744073709551616) : unkey k < 18446744073709551616 := by
  unfold unkey
  split <;> omega
theorem key_form (b : Nat) : keyW (form b) = keyW b := by
  unfold keyW
  rw [form_form]
theorem unkey_key (b : Nat) (hb : b < 18446744073709551616) : unkey (keyW b) = form b := by
  have := form_lt b hb
  unfold unkey keyW
  split <;> split <;> omega
theorem same_key (a b : Nat) (ha : a < 18446744073709551616) (hb : b < 18446744073709551616) : form a = form b ↔ keyW a = keyW b := by
  constructor
  · intro h
    unfold keyW
    rw [h]
  · intro h
    rw [← unkey_key a ha, ← unkey_key b hb, h]
theorem key_cases (b : Nat) : (9223372036854775808 ≤ form b ∧ keyW b = 18446744073709551615 - form b) ∨ (form b < 9223372036854775808 ∧ keyW b = form b + 9223372036854775808) := by
  unfold keyW
  split <;> omega
theorem unkey_cases (k : Nat) : (9223372036854775808 ≤ k ∧ unkey k = k - 9223372036854775808) ∨ (k < 9223372036854775808 ∧ unkey k = 18446744073709551615 - k) := by
  unfold unkey
  split <;> omega
/-- A key of a float is a form's. -/
theorem key_back (k : Nat) (hk : k < 18446744073709551616) (h : keyW (unkey k) = k) : form (unkey k) = unkey k := by
  have h1 := form_lt (unkey k) (unkey_lt k hk)
  have h2 := key_cases (unkey k)
  have h3 := unkey_cases k
  omega

theorem form_nan (b : Nat) (h : nanW b = true) : form b = 9221120237041090560 := by
  unfold nanW at h
  simp at h
  unfold form
  rw [if_pos h]
theorem form_sg (b : Nat) (h : nanW b = false) : form b = (if b % 9223372036854775808 = 0 then 0 else b) := by
  unfold nanW at h
  simp at h
  unfold form
  rw [if_neg (by omega)]
theorem key_nan (b : Nat) (h : nanW b = true) : keyW b = 18444492273895866368 := by
  unfold keyW
  rw [form_nan b h]
  rfl
theorem key_num (b : Nat) (hb : b < 18446744073709551616) (h : nanW b = false) : keyW b < 18444492273895866368 := by
  have h2 := form_sg b h
  unfold nanW at h
  simp at h
  unfold keyW
  rw [h2]
  split <;> split <;> omega
/-- Of numbers, keys are in the order of the signed rungs. -/
theorem key_sg (a b : Nat) (ha : a < 18446744073709551616) (hb : b < 18446744073709551616) (h1 : nanW a = false) (h2 : nanW b = false) : keyW a < keyW b ↔ sg a < sg b := by
  have f1 := form_sg a h1
  have f2 := form_sg b h2
  unfold keyW sg
  rw [f1, f2]
  clear f1 f2 h1 h2
  constructor <;> intro h <;> (repeat' split at h) <;> (repeat' split) <;> omega
theorem form_eq_sg (a b : Nat) (ha : a < 18446744073709551616) (hb : b < 18446744073709551616) (h1 : nanW a = false) (h2 : nanW b = false) : form a = form b ↔ sg a = sg b := by
  have f1 := form_sg a h1
  have f2 := form_sg b h2
  unfold sg
  rw [f1, f2]
  clear f1 f2 h1 h2
  constructor <;> intro h <;> (repeat' split at h) <;> (repeat' split) <;> omega

theorem next_lt (a : Nat) (ha : a < 18446744073709551616) (h : nanW a = false) : nextW a < 18446744073709551616 := by
  have f1 := form_sg a h
  unfold nanW at h
  simp at h
  unfold nextW
  rw [f1]
  (repeat' split) <;> omega
theorem form_any (b : Nat) (hb : b < 18446744073709551616) : form b < 18446744073709551616 ∧ (form b = 9221120237041090560 ∨ form b = 0 ∨ form b = b ∧ b % 9223372036854775808 ≤ 9218868437227405312 ∧ b ≠ 9223372036854775808) := by
  refine ⟨form_lt b hb, ?_⟩
  unfold form
  (repeat' split) <;> omega
theorem form_cases (b : Nat) (h : b % 9223372036854775808 ≤ 9218868437227405312) : (b % 9223372036854775808 = 0 ∧ form b = 0) ∨ (b % 9223372036854775808 ≠ 0 ∧ form b = b) := by
  unfold form
  rw [if_neg (by omega)]
  split <;> omega
theorem next_cases (a : Nat) : (form a = 0 ∧ nextW a = 1) ∨ (form a ≠ 0 ∧ form a < 9223372036854775808 ∧ nextW a = form a + 1) ∨ (form a ≠ 0 ∧ 9223372036854775808 ≤ form a ∧ nextW a = form a - 1) := by
  unfold nextW
  (repeat' split) <;> omega
/-- The next form lies behind, and none lies between. -/
theorem next_key (a b : Nat) (ha : a < 18446744073709551616) (hb : b < 18446744073709551616) (h : nanW a = false) (hi : form a ≠ 9218868437227405312) : keyW a < keyW (nextW a) ∧ ¬ (keyW a < keyW b ∧ keyW b < keyW (nextW a)) := by
  unfold nanW at h
  simp at h
  have h1 := form_cases a h
  have h2 := next_cases a
  have h3 := form_cases (nextW a) (by omega)
  have h4 := form_any b hb
  have h5 := key_cases a
  have h6 := key_cases b
  have h7 := key_cases (nextW a)
  generalize form a = fa at *
  generalize form b = fb at *
  generalize form (nextW a) = fn at *
  generalize keyW a = ka at *
  generalize keyW b = kb at *
  generalize keyW (nextW a) = kn at *
  generalize nextW a = na at *
  omega
theorem next_inf (b : Nat) (hb : b < 18446744073709551616) (a : Nat) (h : form a = 9218868437227405312) : keyW a < 18444492273895866368 ∧ ¬ (keyW a < keyW b ∧ keyW b < 18444492273895866368) := by
  have h4 := form_any b hb
  have h5 := key_cases a
  have h6 := key_cases b
  omega
end Ieee
