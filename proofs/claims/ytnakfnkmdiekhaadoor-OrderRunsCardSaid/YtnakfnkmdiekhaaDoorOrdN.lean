/-
  Less, Same and Next by contracts.
-/
import Derived.Test.YtnakfnkmdiekhaaDoorOrdK
namespace Go.Proofs.YtnakfnkmdiekhaaDoor
open Go.RowKit Ieee

theorem cmpNaN_c (x : Int) (w : World) : Calls Tryd.prog 44 #[.int .u64 x] w fun e w' => e = .returned (.bool false) ∧ w = w' := by
  go_enter Tryd.func44, Tryd.ntmps44
  go_wp2
  go_ret
  exact ⟨rfl, rfl⟩
theorem cmpLess_c (x y : Int) (w : World) : Calls Tryd.prog 32 #[.int .u64 x, .int .u64 y] w fun e w' => e = .returned (.bool (decide (x < y))) ∧ w = w' := by
  have H := Lib.hid cmpNaN_c
  go_enter Tryd.func32, Tryd.ntmps32
  go_wp2_with (go_at_call 44; refine (H.out _ _).mono ?_; rintro e w1 ⟨rfl, rfl⟩)
  go_ret
  exact ⟨rfl, rfl⟩
theorem less_c (a b : Nat) (ha : a < 18446744073709551616) (hb : b < 18446744073709551616) (w : World) :
    Calls Tryd.prog 17 #[.float .f64 a, .float .f64 b] w fun e w' => e = .returned (.bool (decide (keyW a < keyW b))) ∧ w = w' := by
  have H1 := Lib.hid (key_c a ha)
  have H2 := Lib.hid (key_c b hb)
  have H3 := Lib.hid (cmpLess_c (keyW a) (keyW b))
  have e : decide ((keyW a : Int) < (keyW b : Int)) = decide (keyW a < keyW b) := by rw [decide_eq_decide]; omega
  rw [e] at H3
  clear ha hb e
  generalize decide (keyW a < keyW b) = l at *
  generalize keyW a = ka at *
  generalize keyW b = kb at *
  go_enter Tryd.func17, Tryd.ntmps17
  go_wp2_with (first | (go_at_call 13; (with_reducible refine (H1.out _).mono ?_); rintro e w1 ⟨rfl, rfl⟩) | (go_at_call 13; (with_reducible refine (H2.out _).mono ?_); rintro e w1 ⟨rfl, rfl⟩) | (go_at_call 32; refine (H3.out _).mono ?_; rintro e w1 ⟨rfl, rfl⟩))
  go_ret
  exact ⟨rfl, rfl⟩
theorem same_c (a b : Nat) (ha : a < 18446744073709551616) (hb : b < 18446744073709551616) (w : World) :
    Calls Tryd.prog 18 #[.float .f64 a, .float .f64 b] w fun e w' => e = .returned (.bool (decide (form a = form b))) ∧ w = w' := by
  have H1 := Lib.hid (bits_c a ha)
  have H2 := Lib.hid (bits_c b hb)
  clear ha hb
  generalize form a = fa at *
  generalize form b = fb at *
  have e : ((fa : Int) == (fb : Int)) = decide (fa = fb) := by rw [Bool.eq_iff_iff]; simp; omega
  go_enter Tryd.func18, Tryd.ntmps18
  go_wp2_with (first | (go_at_call 12; (with_reducible refine (H1.out _).mono ?_); rintro e w1 ⟨rfl, rfl⟩) | (go_at_call 12; (with_reducible refine (H2.out _).mono ?_); rintro e w1 ⟨rfl, rfl⟩))
  go_ret
  exact ⟨rfl, rfl⟩

theorem copysign_pos (d r : Nat) (hd : d < 9223372036854775808) (h : r < 9223372036854775808) (w : World) :
    Calls Tryd.prog 23 #[.float .f64 d, .float .f64 r] w fun e w' => e = .returned (.float .f64 d) ∧ w = w' := by
  have eb := bits_run
  have ef := from_run
  have hs : bits .andNot .u64 (d : Int) 9223372036854775808 = (d : Int) := by
    rw [andNot_top d (by omega)]
    congr 1
    omega
  have h0 : bits .and .u64 (r : Int) 9223372036854775808 = 0 := by
    have e := u64_and_nat r 9223372036854775808 (by omega) (by decide)
    have h1 : r &&& 9223372036854775808 = 0 := by
      apply Nat.eq_of_testBit_eq
      intro i
      rw [Nat.testBit_and, show 9223372036854775808 = 2 ^ 63 by decide, Nat.testBit_two_pow]
      by_cases hi : 63 = i
      · subst hi; rw [Nat.testBit_lt_two_pow (by omega)]; simp
      · simp [hi]
    rw [h1] at e
    exact e
  have ho : bits .or .u64 (d : Int) 0 = (d : Int) := by
    have e := u64_or_nat d 0 (by omega) (by decide)
    simpa using e
  clear hd h
  go_enter Tryd.func23, Tryd.ntmps23
  go_wp2
  go_ret
  exact ⟨rfl, rfl⟩

/-- Nextafter towards +Inf of a form that is none of NaN and +Inf. -/
theorem nextafter_c (x y : Nat) (hx : x < 18446744073709551616) (hn : nanW x = false) (hi : x ≠ 9218868437227405312) (hz : x ≠ 9223372036854775808) (hy : y = (if x = 0 then 1 else if x < 9223372036854775808 then x + 1 else x - 1)) (w : World) :
    Calls Tryd.prog 33 #[.float .f64 x, .float .f64 9218868437227405312] w fun e w' => e = .returned (.float .f64 y) ∧ w = w' := by
  have H1 := Lib.hid (isNaN_c x hx)
  have H2 := Lib.hid (isNaN_c 9218868437227405312 (by decide))
  rw [hn] at H1
  rw [show nanW 9218868437227405312 = false by decide] at H2
  have n2 : nanW 9218868437227405312 = false := by decide
  have s2 : sg 9218868437227405312 = 9218868437227405312 := by decide
  have hlt : sg x < 9218868437227405312 := by
    unfold nanW at hn
    simp at hn
    unfold sg
    split <;> omega
  have o1 : (FloatKind.f64.format.order x 9218868437227405312 == some .eq) = false := by
    rw [ord_of x _ hx (by decide) hn n2, cmp_eq, s2]; simp; omega
  have o2 : (FloatKind.f64.format.order 9218868437227405312 x == some .gt) = true := by
    rw [ord_of _ x (by decide) hx n2 hn, cmp_gt, s2]; simp; omega
  have o3 : (FloatKind.f64.format.order x 0 == some .eq) = decide (x % 9223372036854775808 = 0) := zero_of x hx hn
  have o4 : (FloatKind.f64.format.order x 0 == some .gt) = decide (0 < sg x) := by
    rw [ord_of x 0 hx (by decide) hn nan_zero, cmp_gt, sg_zero]
  have H3 := Lib.hid (copysign_pos 1 9218868437227405312 (by decide) (by decide))
  obtain ⟨q, hq⟩ : ∃ q : Nat, q = 9218868437227405312 := ⟨_, rfl⟩
  rw [← hq] at H2 H3 o1 o2 ⊢
  have e1 : ∀ w : World, (callFunc 8 #[.int .u64 1]).run Tryd.prog w = .ok (.value (.float .f64 1)) w := fun w => from_run w 1
  by_cases h0 : x = 0
  · subst h0
    rw [if_pos rfl] at hy
    subst hy
    simp only [Nat.zero_mod, decide_true] at o3
    clear o4 hlt hq hi hz hn n2 s2 hx
    go_enter Tryd.func33, Tryd.ntmps33
    go_wp2_with (first | (go_at_call 27; (with_reducible refine (H1.out _).mono ?_); rintro e w1 ⟨rfl, rfl⟩) | (go_at_call 27; (with_reducible refine (H2.out _).mono ?_); rintro e w1 ⟨rfl, rfl⟩) | (go_at_call 23; refine (H3.out _).mono ?_; rintro e w1 ⟨rfl, rfl⟩))
    go_ret
    exact ⟨rfl, rfl⟩
  · have h00 : ¬ (x % 9223372036854775808 = 0) := by omega
    simp only [h00, decide_false] at o3
    rw [if_neg h0] at hy
    have eb := bits_run w x
    by_cases hp : x < 9223372036854775808
    · rw [if_pos hp] at hy
      have hs : 0 < sg x := by unfold sg; rw [if_neg (by omega)]; omega
      simp only [hs, decide_true] at o4
      have hw : IntKind.u64.wrap ((x : Int) + 1) = (y : Int) := by
        show ((x : Int) + 1) % 18446744073709551616 = (y : Int)
        omega
      have hxb : (x : Int) < 9223372036854775808 := by omega
      have HY := Lib.hid (show (x : Int) + 1 = (y : Int) by omega)
      have ef := fun w => from_run w y
      clear hlt hq hi hz hn n2 s2 hs h0 h00 hy hx hp
      go_enter Tryd.func33, Tryd.ntmps33
      go_wp2_with (first | (go_at_call 27; (with_reducible refine (H1.out _).mono ?_); rintro e w1 ⟨rfl, rfl⟩) | (go_at_call 27; (with_reducible refine (H2.out _).mono ?_); rintro e w1 ⟨rfl, rfl⟩))
      go_ret
      exact ⟨rfl, rfl⟩
    · rw [if_neg hp] at hy
      have hs : ¬ 0 < sg x := by unfold sg; rw [if_pos (by omega)]; omega
      simp only [hs, decide_false] at o4
      have hw : IntKind.u64.wrap ((x : Int) - 1) = (y : Int) := by
        show ((x : Int) - 1) % 18446744073709551616 = (y : Int)
        omega
      have ef := fun w => from_run w y
      clear hlt hq hi hz hn n2 s2 hs h0 h00 hy hx hp
      go_enter Tryd.func33, Tryd.ntmps33
      go_wp2_with (first | (go_at_call 27; (with_reducible refine (H1.out _).mono ?_); rintro e w1 ⟨rfl, rfl⟩) | (go_at_call 27; (with_reducible refine (H2.out _).mono ?_); rintro e w1 ⟨rfl, rfl⟩))
      go_ret
      exact ⟨rfl, rfl⟩

theorem next_nan (a : Nat) (ha : a < 18446744073709551616) (hn : nanW a = true) (ea : Addr) (w : World) (hE : ErrAt w 1 ea) :
    Calls Tryd.prog 19 #[.float .f64 a] w fun e w' => e = .returned (.tuple #[.float .f64 0, .iface 104 (.pointer (some ea))]) ∧ Below w.heap.size w w' := by
  have H1 := Lib.hid (isNaN_c a ha)
  rw [hn] at H1
  have hcell : w.cell? ⟨1, 0, none⟩ = some (.iface 104 (.pointer (some ea))) := hE
  clear hE hn ha
  go_enter Tryd.func19, Tryd.ntmps19
  go_wp2_with (go_at_call 27; refine (H1.out _).mono ?_; rintro e w1 ⟨rfl, rfl⟩)
  go_quiet (fail)
  go_wp2
  go_ret2
  exact ⟨rfl, below_drewN (Below.refl _ _) _⟩
theorem next_top (w : World) :
    Calls Tryd.prog 19 #[.float .f64 9218868437227405312] w fun e w' => e = .returned (.tuple #[.float .f64 9221120237041090560, .nilIface]) ∧ w = w' := by
  have H1 := Lib.hid (isNaN_c 9218868437227405312 (by decide))
  have H2 := Lib.hid (isInf_pos 9218868437227405312 (by decide))
  have H3 := Lib.hid nanCall
  have H4 := Lib.hid (form_c 9221120237041090561 (by decide))
  rw [show nanW 9218868437227405312 = false by decide] at H1
  rw [decide_eq_true rfl] at H2
  rw [show form 9221120237041090561 = 9221120237041090560 by decide] at H4
  obtain ⟨q, hq⟩ : ∃ q : Nat, q = 9218868437227405312 := ⟨_, rfl⟩
  rw [← hq] at H1 H2 ⊢
  obtain ⟨m, hm⟩ : ∃ m : Nat, m = 9221120237041090561 := ⟨_, rfl⟩
  rw [← hm] at H3 H4
  clear hq hm
  go_enter Tryd.func19, Tryd.ntmps19
  go_wp2_with (first | (go_at_call 27; refine (H1.out _).mono ?_; rintro e w1 ⟨rfl, rfl⟩) | (go_at_call 29; refine (H2.out _).mono ?_; rintro e w1 ⟨rfl, rfl⟩) | (go_at_call 24; refine (H3.out _).mono ?_; rintro e w1 ⟨rfl, rfl⟩) | (go_at_call 11; refine (H4.out _).mono ?_; rintro e w1 ⟨rfl, rfl⟩))
  go_ret2
  exact ⟨rfl, rfl⟩
theorem next_num (a : Nat) (ha : a < 18446744073709551616) (hn : nanW a = false) (hi : a ≠ 9218868437227405312) (w : World) :
    Calls Tryd.prog 19 #[.float .f64 a] w fun e w' => e = .returned (.tuple #[.float .f64 (form (nextW a)), .nilIface]) ∧ w = w' := by
  have H1 := Lib.hid (isNaN_c a ha)
  have H2 := Lib.hid (isInf_pos a ha)
  have H3 := Lib.hid (form_c a ha)
  have H4 := Lib.hid infPos
  have H6 := Lib.hid (form_c (nextW a) (next_lt a ha hn))
  have hfs := form_sg a hn
  have hn2 : nanW (form a) = false := by
    rw [hfs]
    split
    · rfl
    · exact hn
  have H5 := Lib.hid (nextafter_c (form a) (nextW a) (form_lt a ha) hn2 (by rw [hfs]; split <;> omega) (by rw [hfs]; split <;> omega) rfl)
  rw [hn] at H1
  rw [decide_eq_false hi] at H2
  generalize form (nextW a) = g at *
  generalize nextW a = n at *
  generalize form a = f at *
  obtain ⟨q, hq⟩ : ∃ q : Nat, q = 9218868437227405312 := ⟨_, rfl⟩
  rw [← hq] at H4 H5
  clear hq ha hn hi hfs hn2
  go_enter Tryd.func19, Tryd.ntmps19
  go_wp2_with (first | (go_at_call 27; refine (H1.out _).mono ?_; rintro e w1 ⟨rfl, rfl⟩) | (go_at_call 29; refine (H2.out _).mono ?_; rintro e w1 ⟨rfl, rfl⟩) | (go_at_call 11; (with_reducible refine (H3.out _).mono ?_); rintro e w1 ⟨rfl, rfl⟩) | (go_at_call 25; refine (H4.out _).mono ?_; rintro e w1 ⟨rfl, rfl⟩) | (go_at_call 33; refine (H5.out _).mono ?_; rintro e w1 ⟨rfl, rfl⟩) | (go_at_call 11; (with_reducible refine (H6.out _).mono ?_); rintro e w1 ⟨rfl, rfl⟩))
  go_ret2
  exact ⟨rfl, rfl⟩
end Go.Proofs.YtnakfnkmdiekhaaDoor
