/-
  Back; the chapter's example.
-/
import Derived.Test.YtnakfnkmdiekhaaDoorOrdG
namespace Go.Proofs.YtnakfnkmdiekhaaDoor
open Go.RowKit Ieee

theorem back_yes (k : Nat) (hk : k < 18446744073709551616) (hy : keyW (unkey k) = k) (w : World) :
    Calls Tryd.prog 21 #[.int .u64 (k : Int)] w fun e w' => e = .returned (.tuple #[.int .u64 (unkey k : Nat), .bool true]) ∧ w = w' := by
  have HF := Lib.hid (refform_c (unkey k) (unkey_lt k hk))
  have HK := Lib.hid (refkey_c (unkey k) (unkey_lt k hk))
  rw [hy] at HK
  rw [key_back k hk hy] at HF
  have hc := unkey_cases k
  generalize unkey k = u at *
  clear hy
  rcases hc with ⟨h1, h2⟩ | ⟨h1, h2⟩
  · have h3 : (k : Int) - 9223372036854775808 = (u : Int) := by omega
    have h4 : ¬ ((k : Int) < 9223372036854775808) := by omega
    have hkk : (k : Int) < 18446744073709551616 := by omega
    have HX := Lib.hid h3
    clear hk h1 h2 h3
    go_enter Tryd.func21, Tryd.ntmps21
    go_upto_region 4 with fail
    rw [HX.out]
    go_wp2_with (first | (go_at_call 9; refine (HF.out _).mono ?_; rintro e w1 ⟨rfl, rfl⟩) | (go_at_call 14; refine (HK.out _).mono ?_; rintro e w1 ⟨rfl, rfl⟩))
    go_ret2
    exact ⟨rfl, rfl⟩
  · have h3 : 18446744073709551615 - (k : Int) = (u : Int) := by omega
    have h4 : (k : Int) < 9223372036854775808 := by omega
    have HX := Lib.hid h3
    clear hk h1 h2 h3
    go_enter Tryd.func21, Tryd.ntmps21
    go_upto_region 4 with fail
    rw [HX.out]
    go_wp2_with (first | (go_at_call 9; refine (HF.out _).mono ?_; rintro e w1 ⟨rfl, rfl⟩) | (go_at_call 14; refine (HK.out _).mono ?_; rintro e w1 ⟨rfl, rfl⟩))
    go_ret2
    exact ⟨rfl, rfl⟩

theorem back_no (k : Nat) (hk : k < 18446744073709551616) (hy : keyW (unkey k) ≠ k) : ∃ f : Nat, ∀ w : World,
    Calls Tryd.prog 21 #[.int .u64 (k : Int)] w fun e w' => e = .returned (.tuple #[.int .u64 (f : Int), .bool false]) ∧ w = w' := by
  have HF := Lib.hid (refform_c (unkey k) (unkey_lt k hk))
  have HK := Lib.hid (refkey_c (unkey k) (unkey_lt k hk))
  have hc := unkey_cases k
  refine ⟨form (unkey k), fun w => ?_⟩
  generalize keyW (unkey k) = v at *
  generalize form (unkey k) = f at *
  generalize unkey k = u at *
  have hv : ((v : Int) == (k : Int)) = false := by simp; omega
  clear hy
  by_cases hf : f = u
  · subst hf
    rcases hc with ⟨h1, h2⟩ | ⟨h1, h2⟩
    · have h3 : (k : Int) - 9223372036854775808 = (f : Int) := by omega
      have h4 : ¬ ((k : Int) < 9223372036854775808) := by omega
      have hkk : (k : Int) < 18446744073709551616 := by omega
      have HX := Lib.hid h3
      clear hk h1 h2 h3
      go_enter Tryd.func21, Tryd.ntmps21
      go_upto_region 4 with fail
      rw [HX.out]
      clear h4 HX
      go_wp2_with (first | (go_at_call 9; refine (HF.out _).mono ?_; rintro e w1 ⟨rfl, rfl⟩) | (go_at_call 14; refine (HK.out _).mono ?_; rintro e w1 ⟨rfl, rfl⟩))
      go_ret2
      exact ⟨rfl, rfl⟩
    · have h3 : 18446744073709551615 - (k : Int) = (f : Int) := by omega
      have h4 : (k : Int) < 9223372036854775808 := by omega
      have HX := Lib.hid h3
      clear hk h1 h2 h3
      go_enter Tryd.func21, Tryd.ntmps21
      go_upto_region 4 with fail
      rw [HX.out]
      clear h4 HX
      go_wp2_with (first | (go_at_call 9; refine (HF.out _).mono ?_; rintro e w1 ⟨rfl, rfl⟩) | (go_at_call 14; refine (HK.out _).mono ?_; rintro e w1 ⟨rfl, rfl⟩))
      go_ret2
      exact ⟨rfl, rfl⟩
  · have hfu : ((f : Int) == (u : Int)) = false := by simp; omega
    clear hf
    rcases hc with ⟨h1, h2⟩ | ⟨h1, h2⟩
    · have h3 : (k : Int) - 9223372036854775808 = (u : Int) := by omega
      have h4 : ¬ ((k : Int) < 9223372036854775808) := by omega
      have hkk : (k : Int) < 18446744073709551616 := by omega
      have HX := Lib.hid h3
      clear hk h1 h2 h3
      go_enter Tryd.func21, Tryd.ntmps21
      go_upto_region 4 with fail
      rw [HX.out]
      clear h4 HX
      go_wp2_with (first | (go_at_call 9; refine (HF.out _).mono ?_; rintro e w1 ⟨rfl, rfl⟩) | (go_at_call 14; refine (HK.out _).mono ?_; rintro e w1 ⟨rfl, rfl⟩))
      go_ret2
      exact ⟨rfl, rfl⟩
    · have h3 : 18446744073709551615 - (k : Int) = (u : Int) := by omega
      have h4 : (k : Int) < 9223372036854775808 := by omega
      have HX := Lib.hid h3
      clear hk h1 h2 h3
      go_enter Tryd.func21, Tryd.ntmps21
      go_upto_region 4 with fail
      rw [HX.out]
      clear h4 HX
      go_wp2_with (first | (go_at_call 9; refine (HF.out _).mono ?_; rintro e w1 ⟨rfl, rfl⟩) | (go_at_call 14; refine (HK.out _).mono ?_; rintro e w1 ⟨rfl, rfl⟩))
      go_ret2
      exact ⟨rfl, rfl⟩

theorem copysign_zero (w : World) : Calls Tryd.prog 23 #[.float .f64 0, .float .f64 13830554455654793216] w fun e w' => e = .returned (.float .f64 9223372036854775808) ∧ w = w' := by
  have e1 : ∀ w : World, (callFunc 10 #[.float .f64 0]).run Tryd.prog w = .ok (.value (.int .u64 0)) w := fun w => bits_run w 0
  have e2 : ∀ w : World, (callFunc 10 #[.float .f64 13830554455654793216]).run Tryd.prog w = .ok (.value (.int .u64 13830554455654793216)) w := fun w => bits_run w 13830554455654793216
  have e3 : ∀ w : World, (callFunc 8 #[.int .u64 9223372036854775808]).run Tryd.prog w = .ok (.value (.float .f64 9223372036854775808)) w := fun w => from_run w 9223372036854775808
  have h1 : bits .andNot .u64 0 9223372036854775808 = 0 := by decide +kernel
  have h2 : bits .and .u64 13830554455654793216 9223372036854775808 = 9223372036854775808 := by decide +kernel
  have h3 : bits .or .u64 0 9223372036854775808 = 9223372036854775808 := by decide +kernel
  go_enter Tryd.func23, Tryd.ntmps23
  go_wp2
  go_ret
  exact ⟨rfl, rfl⟩
theorem nanCall (w : World) : Calls Tryd.prog 24 #[] w fun e w' => e = .returned (.float .f64 9221120237041090561) ∧ w = w' := by
  have e3 : ∀ w : World, (callFunc 8 #[.int .u64 9221120237041090561]).run Tryd.prog w = .ok (.value (.float .f64 9221120237041090561)) w := fun w => from_run w 9221120237041090561
  go_enter Tryd.func24, Tryd.ntmps24
  go_wp2
  go_ret
  exact ⟨rfl, rfl⟩
theorem infPos (w : World) : Calls Tryd.prog 25 #[.int .i64 1] w fun e w' => e = .returned (.float .f64 9218868437227405312) ∧ w = w' := by
  have e3 : ∀ w : World, (callFunc 8 #[.int .u64 9218868437227405312]).run Tryd.prog w = .ok (.value (.float .f64 9218868437227405312)) w := fun w => from_run w 9218868437227405312
  go_enter Tryd.func25, Tryd.ntmps25
  go_wp2
  go_ret
  exact ⟨rfl, rfl⟩
theorem infNeg (w : World) : Calls Tryd.prog 25 #[.int .i64 (-1)] w fun e w' => e = .returned (.float .f64 18442240474082181120) ∧ w = w' := by
  have e3 : ∀ w : World, (callFunc 8 #[.int .u64 18442240474082181120]).run Tryd.prog w = .ok (.value (.float .f64 18442240474082181120)) w := fun w => from_run w 18442240474082181120
  go_enter Tryd.func25, Tryd.ntmps25
  go_wp2
  go_ret
  exact ⟨rfl, rfl⟩

theorem max_of (b : Nat) (hb : b < 18446744073709551616) : (FloatKind.f64.format.order b 9218868437227405311 == some .gt) = decide (b = 9218868437227405312) := by
  by_cases hn : nanW b = true
  · show (Ieee.double.order b 9218868437227405311 == some .gt) = _
    rw [order_word b _ hb (by decide), hn]
    have : b ≠ 9218868437227405312 := by
      intro h
      rw [h] at hn
      exact absurd hn (by decide)
    simp [this]
  · have hn' : nanW b = false := by simpa using hn
    rw [ord_of b _ hb (by decide) hn' (by decide), cmp_gt]
    rw [show sg 9218868437227405311 = 9218868437227405311 by decide]
    unfold nanW at hn'
    simp at hn'
    unfold sg
    rw [decide_eq_decide]
    split <;> omega
theorem isInf_pos (b : Nat) (hb : b < 18446744073709551616) (w : World) :
    Calls Tryd.prog 29 #[.float .f64 b, .int .i64 1] w fun e w' => e = .returned (.bool (decide (b = 9218868437227405312))) ∧ w = w' := by
  have h := max_of b hb
  clear hb
  go_enter Tryd.func29, Tryd.ntmps29
  go_wp2
  go_ret
  refine ⟨?_, rfl⟩
  rw [← h]
  rfl
theorem isInf_negInf (w : World) :
    Calls Tryd.prog 29 #[.float .f64 18442240474082181120, .int .i64 (-1)] w fun e w' => e = .returned (.bool true) ∧ w = w' := by
  have h : (FloatKind.f64.format.order 9218868437227405312 9218868437227405311 == some .gt) = true := by kernel_rfl
  have hu : ∀ w : World, (Op.unary .neg (.float .f64 18442240474082181120)).run Tryd.prog w = .ok (.float .f64 9218868437227405312) w := fun _ => by kernel_rfl
  go_enter Tryd.func29, Tryd.ntmps29
  go_wp2
  go_ret
  exact ⟨rfl, rfl⟩
theorem text_negInf (w : World) :
    Calls Tryd.prog 15 #[.float .f64 18442240474082181120] w fun e w' => e = .returned (.string ⟨#[45, 105, 110, 102]⟩) ∧ w = w' := by
  have HN := Lib.hid (isNaN_c 18442240474082181120 (by decide))
  have HP := Lib.hid (isInf_pos 18442240474082181120 (by decide))
  have HM := Lib.hid isInf_negInf
  rw [show nanW 18442240474082181120 = false by decide] at HN
  rw [show decide (18442240474082181120 = 9218868437227405312) = false by decide] at HP
  obtain ⟨m, hm⟩ : ∃ m : Nat, m = 18442240474082181120 := ⟨_, rfl⟩
  rw [← hm] at HN HP HM ⊢
  clear hm
  go_enter Tryd.func15, Tryd.ntmps15
  go_upto_region 5 with (first | (go_at_call 27; refine (HN.out _).mono ?_; rintro e w1 ⟨rfl, rfl⟩) | (go_at_call 29; refine (HP.out _).mono ?_; rintro e w1 ⟨rfl, rfl⟩))
  go_wp2_with (go_at_call 29; refine (HM.out _).mono ?_; rintro e w1 ⟨rfl, rfl⟩)
  go_ret
  exact ⟨rfl, rfl⟩

theorem alive_yes (w : World) : Calls Tryd.prog 7 #[] w fun e w' => e = .returned (.bool true) ∧ w = w' := by
  have H1 := Lib.hid copysign_zero
  have H2 := Lib.hid nanCall
  have H3 := Lib.hid infNeg
  have H4 := Lib.hid text_negInf
  have K1 := Lib.hid (key_c 9223372036854775808 (by decide))
  have K2 := Lib.hid (key_c 9221120237041090561 (by decide))
  rw [show keyW 9223372036854775808 = 9223372036854775808 by decide] at K1
  rw [show keyW 9221120237041090561 = 18444492273895866368 by decide] at K2
  obtain ⟨m, hm⟩ : ∃ m : Nat, m = 18442240474082181120 := ⟨_, rfl⟩
  rw [← hm] at H3 H4
  obtain ⟨z, hz⟩ : ∃ z : Nat, z = 9223372036854775808 := ⟨_, rfl⟩
  have H1' : Hid (∀ w, Calls Tryd.prog 23 #[.float .f64 0, .float .f64 13830554455654793216] w fun e w' => e = .returned (.float .f64 z) ∧ w = w') := Lib.hid (fun w => by rw [hz]; exact H1.out w)
  have K1' : Hid (∀ w, Calls Tryd.prog 13 #[.float .f64 z] w fun e w' => e = .returned (.int .u64 9223372036854775808) ∧ w = w') := Lib.hid (fun w => by rw [hz]; exact K1.out w)
  have K2' : Hid (∀ w, Calls Tryd.prog 13 #[.float .f64 9221120237041090561] w fun e w' => e = .returned (.int .u64 18444492273895866368) ∧ w = w') := Lib.hid (fun w => K2.out w)
  obtain ⟨q, hq⟩ : ∃ q : Nat, q = 9221120237041090561 := ⟨_, rfl⟩
  rw [← hq] at H2 K2'
  clear hm hz hq H1 K1 K2
  go_enter Tryd.func7, Tryd.ntmps7
  go_wp2_with (first | (go_at_call 23; refine (H1'.out _).mono ?_; rintro e w1 ⟨rfl, rfl⟩) | (go_at_call 24; refine (H2.out _).mono ?_; rintro e w1 ⟨rfl, rfl⟩) | (go_at_call 25; refine (H3.out _).mono ?_; rintro e w1 ⟨rfl, rfl⟩) | (go_at_call 15; refine (H4.out _).mono ?_; rintro e w1 ⟨rfl, rfl⟩) | (go_at_call 13; (with_reducible refine (K1'.out _).mono ?_); rintro e w1 ⟨rfl, rfl⟩) | (go_at_call 13; (with_reducible refine (K2'.out _).mono ?_); rintro e w1 ⟨rfl, rfl⟩))
  go_ret
  exact ⟨rfl, rfl⟩
end Go.Proofs.YtnakfnkmdiekhaaDoor
