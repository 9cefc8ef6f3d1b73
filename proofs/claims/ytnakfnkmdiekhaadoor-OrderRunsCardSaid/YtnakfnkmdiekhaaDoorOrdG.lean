/-
  Float and Back: a key's form; Less and Same.
-/
import Derived.Test.YtnakfnkmdiekhaaDoorOrdF
namespace Go.Proofs.YtnakfnkmdiekhaaDoor
open Go.RowKit Ieee

theorem ret_bool {v : Value} {x y : Bool} (hv : v = .bool x) (h : x = y) : Ending.returned v = Ending.returned (.bool y) := by rw [hv, h]
theorem wrap_u64 (x : Int) : IntKind.u64.wrap x = x % 18446744073709551616 := rfl
theorem xor_all2 (f : Nat) (hf : f < 18446744073709551616) : bits .xor .u64 (if IntKind.u64.signed = true then -1 else IntKind.u64.max) (f : Int) = ((18446744073709551615 - f : Nat) : Int) := by
  rw [if_neg (by decide)]
  exact xor_all f hf
theorem andNot_top (k : Nat) (hk : k < 18446744073709551616) : bits .andNot .u64 (k : Int) 9223372036854775808 = ((k % 9223372036854775808 : Nat) : Int) := by
  have e := u64_andNot_nat k 9223372036854775808 hk (by decide)
  have h : k &&& (18446744073709551615 - 9223372036854775808) = k % 9223372036854775808 := Nat.and_two_pow_sub_one_eq_mod k 63
  rw [h] at e
  exact e

theorem float_ok (k : Nat) (hk : k < 18446744073709551616) (hy : keyW (unkey k) = k) (w : World) :
    Calls Tryd.prog 20 #[.int .u64 (k : Int)] w fun e w' => e = .returned (.tuple #[.float .f64 (unkey k), .nilIface]) ∧ w = w' := by
  have HF := Lib.hid (form_c (unkey k) (unkey_lt k hk))
  have HK := Lib.hid (key_c (unkey k) (unkey_lt k hk))
  rw [hy] at HK
  rw [key_back k hk hy] at HF
  have ha := andNot_top k hk
  have hx := xor_all2 k hk
  have ef := from_run
  have hc := unkey_cases k
  generalize unkey k = u at *
  clear hy
  rcases hc with ⟨h1, h2⟩ | ⟨h1, h2⟩
  · have h3 : ((k % 9223372036854775808 : Nat) : Int) = (u : Int) := by omega
    rw [h3] at ha
    have h4 : ¬ ((k : Int) < 9223372036854775808) := by omega
    clear hk h1 h2 h3 hx
    go_enter Tryd.func20, Tryd.ntmps20
    go_wp2_with (first | (go_at_call 11; refine (HF.out _).mono ?_; rintro e w1 ⟨rfl, rfl⟩) | (go_at_call 13; refine (HK.out _).mono ?_; rintro e w1 ⟨rfl, rfl⟩))
    go_ret2
    exact ⟨rfl, rfl⟩
  · have h3 : ((18446744073709551615 - k : Nat) : Int) = (u : Int) := by omega
    rw [h3] at hx
    have h4 : (k : Int) < 9223372036854775808 := by omega
    have HX := Lib.hid hx
    clear hk h1 h2 h3 ha hx
    go_enter Tryd.func20, Tryd.ntmps20
    go_upto_region 4 with fail
    rw [HX.out]
    go_wp2_with (first | (go_at_call 11; refine (HF.out _).mono ?_; rintro e w1 ⟨rfl, rfl⟩) | (go_at_call 13; refine (HK.out _).mono ?_; rintro e w1 ⟨rfl, rfl⟩))
    go_ret2
    exact ⟨rfl, rfl⟩
theorem float_err (k : Nat) (hk : k < 18446744073709551616) (hy : keyW (unkey k) ≠ k) (ea : Addr) (w : World) (hE : ErrAt w 2 ea) :
    Calls Tryd.prog 20 #[.int .u64 (k : Int)] w fun e w' => e = .returned (.tuple #[.float .f64 0, .iface 104 (.pointer (some ea))]) ∧ Below w.heap.size w w' := by
  have HK := Lib.hid (key_c (unkey k) (unkey_lt k hk))
  have ha := andNot_top k hk
  have hx := xor_all2 k hk
  have ef := from_run
  have hc := unkey_cases k
  have hcell : w.cell? ⟨2, 0, none⟩ = some (.iface 104 (.pointer (some ea))) := hE
  generalize keyW (unkey k) = v at *
  generalize unkey k = u at *
  have hne : ((v : Int) == (k : Int)) = false := by simp; omega
  have hne2 : ¬ ((v : Int) = (k : Int)) := by omega
  clear hE
  rcases hc with ⟨h1, h2⟩ | ⟨h1, h2⟩
  · have h3 : ((k % 9223372036854775808 : Nat) : Int) = (u : Int) := by omega
    rw [h3] at ha
    have h4 : ¬ ((k : Int) < 9223372036854775808) := by omega
    clear hk h1 h2 h3 hx hy
    go_enter Tryd.func20, Tryd.ntmps20
    go_wp2_with (go_at_call 13; refine (HK.out _).mono ?_; rintro e w1 ⟨rfl, rfl⟩)
    go_quiet (fail)
    go_wp2
    go_ret2
    exact ⟨rfl, below_drewN (Below.refl _ _) _⟩
  · have h3 : ((18446744073709551615 - k : Nat) : Int) = (u : Int) := by omega
    rw [h3] at hx
    have h4 : (k : Int) < 9223372036854775808 := by omega
    have HX := Lib.hid hx
    clear hk h1 h2 h3 ha hy hx
    go_enter Tryd.func20, Tryd.ntmps20
    go_upto_region 4 with fail
    rw [HX.out]
    clear h4 HX
    go_wp2_with (go_at_call 13; refine (HK.out _).mono ?_; rintro e w1 ⟨rfl, rfl⟩)
    go_quiet (fail)
    go_wp2
    go_ret2
    exact ⟨rfl, below_drewN (Below.refl _ _) _⟩

theorem refnan_c (b : Nat) (_hb : b < 18446744073709551616) (w : World) :
    Calls Tryd.prog 26 #[.int .u64 (b : Int)] w fun e w' => e = .returned (.bool (nanW b)) ∧ w = w' := by
  have e1 : IntKind.u64.wrap ((b : Int) * 2) / 9007199254740992 = ((b % 9223372036854775808 / 4503599627370496 : Nat) : Int) := by
    show (b : Int) * 2 % 18446744073709551616 / 9007199254740992 = _
    omega
  have e2 : IntKind.u64.wrap ((b : Int) * 4096) = ((b % 4503599627370496 * 4096 : Nat) : Int) := by
    show (b : Int) * 4096 % 18446744073709551616 = _
    omega
  go_enter Tryd.func26, Tryd.ntmps26
  go_wp2
  all_goals
    go_ret
    refine ⟨?_, rfl⟩
    first
      | exact ret_bool (x := ((b : Int) % 4503599627370496 * 4096 != 0)) rfl (by unfold nanW; rw [Bool.eq_iff_iff]; simp; omega)
      | exact ret_bool (x := false) rfl (by unfold nanW; rw [Bool.eq_iff_iff]; simp; omega)

theorem refform_c (b : Nat) (hb : b < 18446744073709551616) (w : World) :
    Calls Tryd.prog 9 #[.int .u64 (b : Int)] w fun e w' => e = .returned (.int .u64 (form b : Nat)) ∧ w = w' := by
  have HN := Lib.hid (refnan_c b hb)
  by_cases hn : nanW b = true
  · rw [form_nan b hn]
    rw [hn] at HN
    clear hn
    go_enter Tryd.func9, Tryd.ntmps9
    go_wp2_with (go_at_call 26; refine (HN.out _).mono ?_; rintro e w1 ⟨rfl, rfl⟩)
    go_ret
    exact ⟨rfl, rfl⟩
  · have hn' : nanW b = false := by simpa using hn
    have hf := form_sg b hn'
    rw [hn'] at HN
    have e1 : IntKind.u64.wrap ((b : Int) * 2) = ((b % 9223372036854775808 * 2 : Nat) : Int) := by
      show (b : Int) * 2 % 18446744073709551616 = _
      omega
    by_cases h0 : b % 9223372036854775808 = 0
    · rw [if_pos h0] at hf
      rw [hf]
      rw [h0] at e1
      clear hn hn' hb h0 hf
      go_enter Tryd.func9, Tryd.ntmps9
      go_wp2_with (go_at_call 26; refine (HN.out _).mono ?_; rintro e w1 ⟨rfl, rfl⟩)
      go_ret
      exact ⟨rfl, rfl⟩
    · rw [if_neg h0] at hf
      rw [hf]
      generalize b % 9223372036854775808 = y at *
      have h1 : ((y * 2 : Nat) : Int) ≠ 0 := by omega
      generalize ((y * 2 : Nat) : Int) = z at *
      clear hn hn' hb h0 hf
      go_enter Tryd.func9, Tryd.ntmps9
      go_wp2_with (go_at_call 26; refine (HN.out _).mono ?_; rintro e w1 ⟨rfl, rfl⟩)
      go_ret
      exact ⟨rfl, rfl⟩
theorem refkey_c (b : Nat) (hb : b < 18446744073709551616) (w : World) :
    Calls Tryd.prog 14 #[.int .u64 (b : Int)] w fun e w' => e = .returned (.int .u64 (keyW b : Nat)) ∧ w = w' := by
  have HF := Lib.hid (refform_c b hb)
  have hlt := form_lt b hb
  have hk := key_cases b
  generalize form b = f at *
  generalize keyW b = k at *
  rcases hk with ⟨h1, h2⟩ | ⟨h1, h2⟩
  · have e1 : (f : Int) / 9223372036854775808 = 1 := by omega
    have HK := Lib.hid (And.intro h2 hlt)
    clear h1 h2 hlt hb
    go_enter Tryd.func14, Tryd.ntmps14
    go_wp2_with (go_at_call 9; refine (HF.out _).mono ?_; rintro e w1 ⟨rfl, rfl⟩)
    go_ret
    have h2 := HK.out
    exact ⟨ret_u64 rfl (by omega), rfl⟩
  · have e1 : (f : Int) / 9223372036854775808 = 0 := by omega
    have HK := Lib.hid (And.intro h2 (And.intro hlt h1))
    clear h1 h2 hlt hb
    go_enter Tryd.func14, Tryd.ntmps14
    go_wp2_with (go_at_call 9; refine (HF.out _).mono ?_; rintro e w1 ⟨rfl, rfl⟩)
    go_ret
    have h2 := HK.out
    refine ⟨ret_u64 rfl ?_, rfl⟩
    first
      | omega
      | (rw [wrap_u64]; omega)
end Go.Proofs.YtnakfnkmdiekhaaDoor
