/-
  Package order and math by contracts, of all words.
-/
import Derived.Test.YtnakfnkmdiekhaaDoorRow16
import Derived.Test.YtnakfnkmdiekhaaDoorKeys
import Derived.Laws.FloatArith
import Derived.Laws.Cover2
import Derived.Laws.BitsAllLaws
namespace Go.Proofs.YtnakfnkmdiekhaaDoor
open Go.RowKit Ieee

theorem nn_of (b : Nat) (hb : b < 18446744073709551616) : (FloatKind.f64.format.order b b != some .eq) = nanW b := by
  show (Ieee.double.order b b != some .eq) = nanW b
  rw [order_word b b hb hb]
  cases h : nanW b
  · simp [cmp3]
  · simp
theorem ord_of (a b : Nat) (ha : a < 18446744073709551616) (hb : b < 18446744073709551616) (h1 : nanW a = false) (h2 : nanW b = false) : FloatKind.f64.format.order a b = some (cmp3 (sg a) (sg b)) := by
  show Ieee.double.order a b = _
  rw [order_word a b ha hb, h1, h2]
  rfl
theorem cmp_eq (x y : Int) : (some (cmp3 x y) == some Ordering.eq) = decide (x = y) := by
  unfold cmp3
  by_cases h : x < y
  · rw [if_pos h]; simp; omega
  · rw [if_neg h]
    by_cases h2 : x = y
    · simp [h2]
    · simp [h2]
theorem cmp_lt (x y : Int) : (some (cmp3 x y) == some Ordering.lt) = decide (x < y) := by
  unfold cmp3
  by_cases h : x < y
  · simp [h]
  · rw [if_neg h]
    by_cases h2 : x = y <;> simp [h2, h]
theorem cmp_gt (x y : Int) : (some (cmp3 x y) == some Ordering.gt) = decide (y < x) := by
  unfold cmp3
  by_cases h : x < y
  · rw [if_pos h]; simp; omega
  · rw [if_neg h]
    by_cases h2 : x = y
    · simp [h2]
    · simp [h2]; omega
theorem sg_zero : sg 0 = 0 := rfl
theorem nan_zero : nanW 0 = false := rfl
theorem zero_of (b : Nat) (hb : b < 18446744073709551616) (h : nanW b = false) : (FloatKind.f64.format.order b 0 == some .eq) = decide (b % 9223372036854775808 = 0) := by
  rw [ord_of b 0 hb (by decide) h nan_zero, cmp_eq, sg_zero]
  unfold sg
  by_cases hz : b % 9223372036854775808 = 0
  · simp [hz]
  · split <;> simp [hz] <;> omega

theorem bits_run (w : World) (b : Nat) : (callFunc 10 #[.float .f64 b]).run Tryd.prog w = .ok (.value (.int .u64 (b : Int))) w := by
  rw [@run_callFunc_extern Tryd.prog 10 _ Extern.MathFloatBits.float64bits Tryd.func10 (by kernel_rfl) (by kernel_rfl) (by kernel_rfl) (by kernel_rfl)]
  rfl
theorem from_run (w : World) (b : Nat) : (callFunc 8 #[.int .u64 (b : Int)]).run Tryd.prog w = .ok (.value (.float .f64 b)) w := by
  rw [@run_callFunc_extern Tryd.prog 8 _ Extern.MathFloatBits.float64frombits Tryd.func8 (by kernel_rfl) (by kernel_rfl) (by kernel_rfl) (by kernel_rfl)]
  rfl

theorem isNaN_c (b : Nat) (hb : b < 18446744073709551616) (w : World) :
    Calls Tryd.prog 27 #[.float .f64 b] w fun e w' => e = .returned (.bool (nanW b)) ∧ w = w' := by
  have h := nn_of b hb
  clear hb
  go_enter Tryd.func27, Tryd.ntmps27
  go_wp2
  go_ret
  refine ⟨?_, rfl⟩
  rw [← h]
  rfl
theorem signbit_c (b : Nat) (hb : b < 18446744073709551616) (w : World) :
    Calls Tryd.prog 28 #[.float .f64 b] w fun e w' => e = .returned (.bool (decide (9223372036854775808 ≤ b))) ∧ w = w' := by
  have eb := bits_run
  have HB := Lib.hid hb
  clear hb
  go_enter Tryd.func28, Tryd.ntmps28
  go_wp2
  go_ret
  refine ⟨?_, rfl⟩
  have h := HB.out
  have e : decide (wrap64 (b : Int) < 0) = decide (9223372036854775808 ≤ b) := by
    simp only [wrap64, decide_eq_decide]
    omega
  rw [← e]
  rfl

theorem form_c (b : Nat) (hb : b < 18446744073709551616) (w : World) :
    Calls Tryd.prog 11 #[.float .f64 b] w fun e w' => e = .returned (.float .f64 (form b)) ∧ w = w' := by
  have HI := Lib.hid (isNaN_c b hb)
  have ef := from_run
  by_cases hn : nanW b = true
  · rw [form_nan b hn]
    rw [hn] at HI
    clear hn hb
    have ef2 : ∀ w : World, (callFunc 8 #[.int .u64 9221120237041090560]).run Tryd.prog w = .ok (.value (.float .f64 9221120237041090560)) w := fun w => from_run w 9221120237041090560
    go_enter Tryd.func11, Tryd.ntmps11
    go_wp2_with (go_at_call 27; refine (HI.out _).mono ?_; rintro e w1 ⟨rfl, rfl⟩)
    go_wp2
    go_ret
    exact ⟨rfl, rfl⟩
  · have hn' : nanW b = false := by simpa using hn
    have hz := zero_of b hb hn'
    have hf := form_sg b hn'
    rw [hn'] at HI
    by_cases h0 : b % 9223372036854775808 = 0
    · rw [if_pos h0] at hf
      rw [hf]
      simp only [h0, decide_true] at hz
      clear hn hn' hb h0 hf ef
      go_enter Tryd.func11, Tryd.ntmps11
      go_wp2_with (go_at_call 27; refine (HI.out _).mono ?_; rintro e w1 ⟨rfl, rfl⟩)
      go_ret
      exact ⟨rfl, rfl⟩
    · rw [if_neg h0] at hf
      rw [hf]
      simp only [h0, decide_false] at hz
      clear hn hn' hb h0 hf ef
      go_enter Tryd.func11, Tryd.ntmps11
      go_wp2_with (go_at_call 27; refine (HI.out _).mono ?_; rintro e w1 ⟨rfl, rfl⟩)
      go_ret
      exact ⟨rfl, rfl⟩
theorem bits_c (b : Nat) (hb : b < 18446744073709551616) (w : World) :
    Calls Tryd.prog 12 #[.float .f64 b] w fun e w' => e = .returned (.int .u64 (form b : Nat)) ∧ w = w' := by
  have HF := Lib.hid (form_c b hb)
  have eb := bits_run
  clear hb
  generalize form b = f at *
  go_enter Tryd.func12, Tryd.ntmps12
  go_wp2_with (go_at_call 11; refine (HF.out _).mono ?_; rintro e w1 ⟨rfl, rfl⟩)
  go_ret
  exact ⟨rfl, rfl⟩
theorem xor_all (f : Nat) (hf : f < 18446744073709551616) : bits .xor .u64 IntKind.u64.max (f : Int) = ((18446744073709551615 - f : Nat) : Int) := by
  have e := u64_xor_nat 18446744073709551615 f (by decide) hf
  have h : (18446744073709551615 : Nat) ^^^ f = 18446744073709551615 - f := by
    apply Nat.eq_of_testBit_eq
    intro i
    have h1 : 18446744073709551615 - f = 2 ^ 64 - (f + 1) := by omega
    rw [h1, Nat.testBit_xor, Nat.testBit_two_pow_sub_succ (by omega), show 18446744073709551615 = 2 ^ 64 - 1 by decide, Nat.testBit_two_pow_sub_one]
    by_cases hi : i < 64
    · simp [hi]
    · have h2 : f.testBit i = false := Nat.testBit_lt_two_pow (Nat.lt_of_lt_of_le (show f < 2 ^ 64 by omega) (Nat.pow_le_pow_right (by decide) (show 64 ≤ i by omega)))
      simp [hi, h2]
  rw [h] at e
  exact e
theorem or_sign (f : Nat) (hf : f < 9223372036854775808) : bits .or .u64 (f : Int) 9223372036854775808 = ((f + 9223372036854775808 : Nat) : Int) := by
  have e := u64_or_nat f 9223372036854775808 (by omega) (by decide)
  have h : f ||| 9223372036854775808 = f + 9223372036854775808 := by
    have := Nat.two_pow_add_eq_or_of_lt (i := 63) (b := f) (by omega) 1
    rw [Nat.or_comm, Nat.add_comm]
    simpa using this.symm
  rw [h] at e
  exact e
theorem ret_u64 {v : Value} {x y : Int} (hv : v = .int .u64 x) (h : x = y) : Ending.returned v = Ending.returned (.int .u64 y) := by rw [hv, h]
theorem key_c (b : Nat) (hb : b < 18446744073709551616) (w : World) :
    Calls Tryd.prog 13 #[.float .f64 b] w fun e w' => e = .returned (.int .u64 (keyW b : Nat)) ∧ w = w' := by
  have HF := Lib.hid (form_c b hb)
  have HB := Lib.hid (bits_c b hb)
  have hlt := form_lt b hb
  have HS := Lib.hid (signbit_c (form b) hlt)
  have HK := Lib.hid (key_cases b)
  have HLT := Lib.hid hlt
  clear hb
  generalize form b = f at *
  generalize keyW b = k at *
  by_cases hs : 9223372036854775808 ≤ f
  · simp only [hs, decide_true] at HS
    have HH := Lib.hid hs
    clear hs hlt
    go_enter Tryd.func13, Tryd.ntmps13
    go_wp2_with (first | (go_at_call 11; refine (HF.out _).mono ?_; rintro e w1 ⟨rfl, rfl⟩) | (go_at_call 12; refine (HB.out _).mono ?_; rintro e w1 ⟨rfl, rfl⟩) | (go_at_call 28; refine (HS.out _).mono ?_; rintro e w1 ⟨rfl, rfl⟩))
    go_ret
    have h1 := HK.out
    have h2 := HH.out
    exact ⟨ret_u64 rfl (by rw [xor_all f HLT.out]; congr 1; omega), rfl⟩
  · simp only [hs, decide_false] at HS
    have HH := Lib.hid hs
    clear hs hlt
    go_enter Tryd.func13, Tryd.ntmps13
    go_wp2_with (first | (go_at_call 11; refine (HF.out _).mono ?_; rintro e w1 ⟨rfl, rfl⟩) | (go_at_call 12; refine (HB.out _).mono ?_; rintro e w1 ⟨rfl, rfl⟩) | (go_at_call 28; refine (HS.out _).mono ?_; rintro e w1 ⟨rfl, rfl⟩))
    go_ret
    have h1 := HK.out
    have h2 := HH.out
    exact ⟨ret_u64 rfl (by rw [or_sign f (by omega)]; congr 1; omega), rfl⟩
end Go.Proofs.YtnakfnkmdiekhaaDoor
