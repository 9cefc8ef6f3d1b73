/-
  Package split by contracts.
-/
import Derived.Test.YtacdbgoffepaaaaDoorNum
namespace Go.Proofs.YtacdbgoffepaaaaDoor
open Go.RowKit

theorem ret_same {v u : Value} (h : v = u) : Ending.returned v = Ending.returned u := by rw [h]

theorem u64_low7 (h : Int) (h0 : 0 ≤ h) (h1 : h < 18446744073709551616) : bits .and .u64 h 127 = h % 128 := by
  have e := u64_and h 127 h0 h1 (by decide) (by decide)
  rw [e, show (127 : Int).toNat = 127 from rfl, nat_mask7]
  omega
theorem u64_low1 (h : Int) (h0 : 0 ≤ h) (h1 : h < 18446744073709551616) : bits .and .u64 h 1 = h % 2 := by
  have e := u64_and h 1 h0 h1 (by decide) (by decide)
  rw [e, show (1 : Int).toNat = 1 from rfl, nat_mask1]
  omega
theorem shr_lt (h : Int) (h0 : 0 ≤ h) (n : Nat) : 0 ≤ h / 2 ^ n ∧ h / 2 ^ n ≤ h := by
  have hp : (0 : Int) < 2 ^ n := Int.pow_pos (by decide)
  exact ⟨Int.ediv_nonneg h0 (Int.le_of_lt hp), Int.ediv_le_self _ h0⟩
theorem top_lt (h d : Int) (h1 : h < 18446744073709551616) (d0 : 0 ≤ d) (d1 : d ≤ 16) : h / 2 ^ (64 - d).toNat < 2 ^ d.toNat := by
  have hp : (0 : Int) < 2 ^ (64 - d).toNat := Int.pow_pos (by decide)
  refine Int.ediv_lt_of_lt_mul hp ?_
  rw [← Int.pow_add, show d.toNat + (64 - d).toNat = 64 by omega]
  exact h1
theorem pow_le16 (d : Int) (d1 : d ≤ 16) : (2 : Int) ^ d.toNat ≤ 65536 := by
  have : (2 : Nat) ^ d.toNat ≤ 2 ^ 16 := Nat.pow_le_pow_right (by decide) (by omega)
  have h2 : ((2 ^ d.toNat : Nat) : Int) ≤ ((2 ^ 16 : Nat) : Int) := by exact_mod_cast this
  simpa using h2

theorem h1_any (h : Int) (w : World) :
    Calls Tryd.prog 16 #[.int .u64 h] w fun e w' => e = .returned (.int .u64 (h / 128)) ∧ w = w' := by
  go_enter Tryd.func16, Tryd.ntmps16
  go_wp2
  go_ret
  exact ⟨rfl, rfl⟩

theorem h2_any (h : Int) (h0 : 0 ≤ h) (h1 : h < 18446744073709551616) (w : World) :
    Calls Tryd.prog 18 #[.int .u64 h] w fun e w' => e = .returned (.int .u8 (h % 128)) ∧ w = w' := by
  go_enter Tryd.func18, Tryd.ntmps18
  go_wp2
  go_ret
  refine ⟨?_, rfl⟩
  have e := u64_low7 h h0 h1
  refine ret_same ?_
  show Value.int IntKind.u8 (bits BinOp.and IntKind.u64 h 127 % 256) = _
  rw [e]
  congr 1
  omega

theorem deep_yes (d : Int) (w : World) (d0 : 0 ≤ d) (d1 : d ≤ 16) :
    Calls Tryd.prog 52 #[.int .i64 d] w fun e w' => e = .returned (.bool true) ∧ w = w' := by
  go_enter Tryd.func52, Tryd.ntmps52
  go_wp2
  go_ret
  exact ⟨rfl, rfl⟩
theorem deep_no (d : Int) (w : World) (hd : ¬ (0 ≤ d ∧ d ≤ 16)) :
    Calls Tryd.prog 52 #[.int .i64 d] w fun e w' => e = .returned (.bool false) ∧ w = w' := by
  by_cases h : 0 ≤ d
  · have h2 : decide (d ≤ 16) = false := by simp; omega
    clear hd
    go_enter Tryd.func52, Tryd.ntmps52
    go_wp2
    go_ret
    exact ⟨rfl, rfl⟩
  · have h2 : d < 0 := by omega
    clear hd h
    go_enter Tryd.func52, Tryd.ntmps52
    go_wp2
    go_ret
    exact ⟨rfl, rfl⟩

theorem top_yes (h d : Int) (w : World) (h0 : 0 ≤ h) (h1 : h < 18446744073709551616) (d0 : 0 ≤ d) (d1 : d ≤ 16) :
    Calls Tryd.prog 12 #[.int .u64 h, .int .i64 d] w fun e w' => e = .returned (.tuple #[.int .i64 (h / 2 ^ (64 - d).toNat), .nilIface]) ∧ w = w' := by
  have hb := top_lt h d h1 d0 d1
  have hb2 := pow_le16 d d1
  have hb3 := (shr_lt h h0 (64 - d).toNat).1
  have hb4 : h / 2 ^ (64 - d).toNat < 65536 := by omega
  clear hb hb2
  go_enter Tryd.func12, Tryd.ntmps12
  go_wp2_with (go_at_call 52; refine (deep_yes _ _ d0 d1).mono ?_; rintro e w' ⟨rfl, rfl⟩)
  go_ret2
  exact ⟨rfl, rfl⟩
theorem top_no (h d : Int) (w : World) (ea : Addr) (hE : ErrAt w 0 ea) (hd : ¬ (0 ≤ d ∧ d ≤ 16)) :
    Calls Tryd.prog 12 #[.int .u64 h, .int .i64 d] w fun e w' => e = .returned (.tuple #[.int .i64 0, (.iface 148 (.pointer (some ea)))]) ∧ Below w.heap.size w w' := by
  have hc : w.cell? ⟨0, 0, none⟩ = some (.iface 148 (.pointer (some ea))) := hE
  have HD := Lib.hid hd
  clear hd hE
  go_enter Tryd.func12, Tryd.ntmps12
  go_wp2_with (go_at_call 52; refine (deep_no _ _ HD.out).mono ?_; rintro e w' ⟨rfl, rfl⟩)
  go_quiet (fail)
  go_wp2
  go_ret2
  exact ⟨rfl, below_drewN (Below.refl _ _) _⟩

theorem bit_yes (h d : Int) (w : World) (h0 : 0 ≤ h) (h1 : h < 18446744073709551616) (d0 : 0 ≤ d) (d1 : d ≤ 16) :
    Calls Tryd.prog 14 #[.int .u64 h, .int .i64 d] w fun e w' => e = .returned (.tuple #[.int .i64 (h / 2 ^ (63 - d).toNat % 2), .nilIface]) ∧ w = w' := by
  have hb3 := (shr_lt h h0 (63 - d).toNat).1
  have hb4 := (shr_lt h h0 (63 - d).toNat).2
  have e1 := Lib.hid (u64_low1 _ hb3 (by omega))
  go_enter Tryd.func14, Tryd.ntmps14
  go_wp2_with (go_at_call 52; refine (deep_yes _ _ d0 d1).mono ?_; rintro e w' ⟨rfl, rfl⟩)
  go_ret2
  refine ⟨ret_same ?_, rfl⟩
  show Value.tuple #[Value.int IntKind.i64 (wrap64 (bits BinOp.and IntKind.u64 (h / 2 ^ (63 - d).toNat) 1)), Value.nilIface] = _
  rw [e1.out, IntWalk.wrap64_in _ ⟨by omega, by omega⟩]
theorem bit_no (h d : Int) (w : World) (ea : Addr) (hE : ErrAt w 0 ea) (hd : ¬ (0 ≤ d ∧ d ≤ 16)) :
    Calls Tryd.prog 14 #[.int .u64 h, .int .i64 d] w fun e w' => e = .returned (.tuple #[.int .i64 0, (.iface 148 (.pointer (some ea)))]) ∧ Below w.heap.size w w' := by
  have hc : w.cell? ⟨0, 0, none⟩ = some (.iface 148 (.pointer (some ea))) := hE
  have HD := Lib.hid hd
  clear hd hE
  go_enter Tryd.func14, Tryd.ntmps14
  go_wp2_with (go_at_call 52; refine (deep_no _ _ HD.out).mono ?_; rintro e w' ⟨rfl, rfl⟩)
  go_quiet (fail)
  go_wp2
  go_ret2
  exact ⟨rfl, below_drewN (Below.refl _ _) _⟩

def Pref (p d : Int) : Prop := 0 ≤ d ∧ d ≤ 16 ∧ 0 ≤ p ∧ p < 2 ^ d.toNat
theorem prefixed_yes (p d : Int) (w : World) (h : Pref p d) :
    Calls Tryd.prog 56 #[.int .i64 p, .int .i64 d] w fun e w' => e = .returned (.bool true) ∧ w = w' := by
  obtain ⟨d0, d1, p0, p1⟩ := h
  have hb2 := pow_le16 d d1
  go_enter Tryd.func56, Tryd.ntmps56
  go_wp2_with (go_at_call 52; refine (deep_yes _ _ d0 d1).mono ?_; rintro e w' ⟨rfl, rfl⟩)
  go_ret
  exact ⟨rfl, rfl⟩
theorem prefixed_no (p d : Int) (w : World) (h : ¬ Pref p d) :
    Calls Tryd.prog 56 #[.int .i64 p, .int .i64 d] w fun e w' => e = .returned (.bool false) ∧ w = w' := by
  by_cases hd : 0 ≤ d ∧ d ≤ 16
  · obtain ⟨d0, d1⟩ := hd
    have hb2 := pow_le16 d d1
    by_cases p0 : 0 ≤ p
    · have p1 : 2 ^ d.toNat ≤ p := Int.not_lt.1 fun hp => h ⟨d0, d1, p0, hp⟩
      have hb3 : (0 : Int) < 2 ^ d.toNat := Int.pow_pos (by decide)
      have p2 : decide (p < 2 ^ d.toNat) = false := decide_eq_false (by omega)
      clear h p1
      go_enter Tryd.func56, Tryd.ntmps56
      go_wp2_with (go_at_call 52; refine (deep_yes _ _ d0 d1).mono ?_; rintro e w' ⟨rfl, rfl⟩)
      go_ret
      exact ⟨rfl, rfl⟩
    · have p2 : decide (0 ≤ p) = false := decide_eq_false p0
      clear h p0
      go_enter Tryd.func56, Tryd.ntmps56
      go_wp2_with (go_at_call 52; refine (deep_yes _ _ d0 d1).mono ?_; rintro e w' ⟨rfl, rfl⟩)
      go_ret
      exact ⟨rfl, rfl⟩
  · have HD := Lib.hid hd
    clear hd h
    go_enter Tryd.func56, Tryd.ntmps56
    go_wp2_with (go_at_call 52; refine (deep_no _ _ HD.out).mono ?_; rintro e w' ⟨rfl, rfl⟩)
    go_ret
    exact ⟨rfl, rfl⟩

theorem low_val (p d : Int) (h : Pref p d) : 0 ≤ p * 2 ^ (64 - d).toNat ∧ p * 2 ^ (64 - d).toNat + (2 ^ (64 - d).toNat - 1) < 18446744073709551616 := by
  obtain ⟨d0, d1, p0, p1⟩ := h
  have hp : (0 : Int) < 2 ^ (64 - d).toNat := Int.pow_pos (by decide)
  have e : (2 : Int) ^ d.toNat * 2 ^ (64 - d).toNat = 18446744073709551616 := by
    rw [← Int.pow_add, show d.toNat + (64 - d).toNat = 64 by omega]; rfl
  have h2 : (p + 1) * 2 ^ (64 - d).toNat ≤ 2 ^ d.toNat * 2 ^ (64 - d).toNat := Int.mul_le_mul_of_nonneg_right (by omega) (by omega)
  rw [Int.add_mul, Int.one_mul, e] at h2
  exact ⟨Int.mul_nonneg p0 (by omega), by omega⟩
theorem low_wrap (p d : Int) (h : Pref p d) : IntKind.u64.wrap (p * 2 ^ (64 - d).toNat) = p * 2 ^ (64 - d).toNat := by
  have hv := low_val p d h
  have hp : (0 : Int) < 2 ^ (64 - d).toNat := Int.pow_pos (by decide)
  rw [IntKind.wrap_u64]
  omega
theorem ones_div (k n : Nat) : (2 ^ (k + n) - 1) / 2 ^ n = 2 ^ k - 1 := by
  have h1 : 0 < 2 ^ n := Nat.two_pow_pos n
  have h2 : 0 < 2 ^ k := Nat.two_pow_pos k
  rw [Nat.pow_add]
  have e : 2 ^ k * 2 ^ n - 1 = (2 ^ n - 1) + 2 ^ n * (2 ^ k - 1) := by
    rw [Nat.mul_sub, Nat.mul_one, Nat.mul_comm (2 ^ n) (2 ^ k)]
    have : 2 ^ n ≤ 2 ^ k * 2 ^ n := Nat.le_mul_of_pos_left _ h2
    omega
  rw [e, Nat.add_mul_div_left _ _ h1, Nat.div_eq_of_lt (by omega), Nat.zero_add]
theorem high_or (p d : Int) (h : Pref p d) : bits BinOp.or IntKind.u64 (p * 2 ^ (64 - d).toNat) (18446744073709551615 / 2 ^ d.toNat) = p * 2 ^ (64 - d).toNat + (2 ^ (64 - d).toNat - 1) := by
  have hv := low_val p d h
  obtain ⟨d0, d1, p0, p1⟩ := h
  obtain ⟨D, rfl⟩ := Int.eq_ofNat_of_zero_le d0
  obtain ⟨X, rfl⟩ := Int.eq_ofNat_of_zero_le p0
  have hk : (64 - (D : Int)).toNat = 64 - D := by omega
  rw [hk] at hv ⊢
  rw [Int.toNat_natCast]
  have hD : D ≤ 16 := by omega
  have e1 : ((18446744073709551615 : Int) / 2 ^ D) = ((2 ^ (64 - D) - 1 : Nat) : Int) := by
    have h1 := ones_div (64 - D) D
    rw [show 64 - D + D = 64 by omega] at h1
    rw [← h1]
    simp
  have e2 : ((X : Int) * 2 ^ (64 - D)) = ((X * 2 ^ (64 - D) : Nat) : Int) := by simp
  have hpos : 0 < 2 ^ (64 - D) := Nat.two_pow_pos _
  have hle : 2 ^ (64 - D) ≤ 2 ^ 64 := Nat.pow_le_pow_right (by decide) (by omega)
  have e3 : ((2 : Int) ^ (64 - D)) = ((2 ^ (64 - D) : Nat) : Int) := by simp
  rw [e2, e3] at hv ⊢
  rw [e1, u64_or_nat _ _ (by omega) (by omega), nat_join (64 - D) _ _ (Nat.mul_mod_left _ _) (by omega)]
  omega

theorem low_yes (p d : Int) (w : World) (h : Pref p d) :
    Calls Tryd.prog 26 #[.int .i64 p, .int .i64 d] w fun e w' => e = .returned (.tuple #[.int .u64 (p * 2 ^ (64 - d).toNat), .nilIface]) ∧ w = w' := by
  have h' := h
  obtain ⟨d0, d1, p0, p1⟩ := h'
  have hb2 := pow_le16 d d1
  have HD := Lib.hid h
  clear h
  go_enter Tryd.func26, Tryd.ntmps26
  go_wp2_with (go_at_call 56; refine (prefixed_yes _ _ _ HD.out).mono ?_; rintro e w' ⟨rfl, rfl⟩)
  go_ret2
  refine ⟨ret_same ?_, rfl⟩
  show Value.tuple #[Value.int IntKind.u64 (IntKind.u64.wrap (p * 2 ^ (64 - d).toNat)), Value.nilIface] = _
  rw [low_wrap p d HD.out]
theorem low_no (p d : Int) (w : World) (ea : Addr) (hE : ErrAt w 0 ea) (hd : ¬ Pref p d) :
    Calls Tryd.prog 26 #[.int .i64 p, .int .i64 d] w fun e w' => e = .returned (.tuple #[.int .u64 0, (.iface 148 (.pointer (some ea)))]) ∧ Below w.heap.size w w' := by
  have hc : w.cell? ⟨0, 0, none⟩ = some (.iface 148 (.pointer (some ea))) := hE
  have HD := Lib.hid hd
  clear hd hE
  go_enter Tryd.func26, Tryd.ntmps26
  go_wp2_with (go_at_call 56; refine (prefixed_no _ _ _ HD.out).mono ?_; rintro e w' ⟨rfl, rfl⟩)
  go_quiet (fail)
  go_wp2
  go_ret2
  exact ⟨rfl, below_drewN (Below.refl _ _) _⟩

theorem high_yes (p d : Int) (w : World) (h : Pref p d) :
    Calls Tryd.prog 27 #[.int .i64 p, .int .i64 d] w fun e w' => e = .returned (.tuple #[.int .u64 (p * 2 ^ (64 - d).toNat + (2 ^ (64 - d).toNat - 1)), .nilIface]) ∧ w = w' := by
  have h' := h
  obtain ⟨d0, d1, p0, p1⟩ := h'
  have hb2 := pow_le16 d d1
  have HD := Lib.hid h
  clear h
  go_enter Tryd.func27, Tryd.ntmps27
  go_wp2_with (go_at_call 26; refine (low_yes _ _ _ HD.out).mono ?_; rintro e w' ⟨rfl, rfl⟩)
  go_ret2
  refine ⟨ret_same ?_, rfl⟩
  show Value.tuple #[Value.int IntKind.u64 (bits BinOp.or IntKind.u64 (p * 2 ^ (64 - d).toNat) (18446744073709551615 / 2 ^ d.toNat)), Value.nilIface] = _
  rw [high_or p d HD.out]
theorem high_no (p d : Int) (w : World) (ea : Addr) (hE : ErrAt w 0 ea) (hd : ¬ Pref p d) :
    Calls Tryd.prog 27 #[.int .i64 p, .int .i64 d] w fun e w' => e = .returned (.tuple #[.int .u64 0, (.iface 148 (.pointer (some ea)))]) ∧ Below w.heap.size w w' := by
  have HD := Lib.hid hd
  have HE := Lib.hid hE
  clear hd hE
  go_enter Tryd.func27, Tryd.ntmps27
  go_wp2_with (go_at_call 26; refine (low_no _ _ _ ea HE.out HD.out).mono ?_; rintro e w' ⟨rfl, hb⟩)
  go_ret2
  exact ⟨rfl, hb⟩

/-- Is a hash one of a prefix? -/
def withinB (h p d : Int) : Bool := decide (0 ≤ d ∧ d ≤ 16 ∧ 0 ≤ p ∧ p < 2 ^ d.toNat ∧ h / 2 ^ (64 - d).toNat = p)
theorem within_any (h p d : Int) (w : World) (ea : Addr) (hE : ErrAt w 0 ea) (h0 : 0 ≤ h) (h1 : h < 18446744073709551616) :
    Calls Tryd.prog 29 #[.int .u64 h, .int .i64 p, .int .i64 d] w fun e w' => e = .returned (.bool (withinB h p d)) ∧ Below w.heap.size w w' := by
  by_cases hd : 0 ≤ d ∧ d ≤ 16
  · obtain ⟨d0, d1⟩ := hd
    by_cases hp : Pref p d
    · have HP := Lib.hid hp
      by_cases ht : h / 2 ^ (64 - d).toNat = p
      · have hw := Lib.hid (show withinB h p d = true from decide_eq_true ⟨hp.1, hp.2.1, hp.2.2.1, hp.2.2.2, ht⟩)
        have ht' : (h / 2 ^ (64 - d).toNat == p) = true := by simpa using ht
        clear hp ht hE
        go_enter Tryd.func29, Tryd.ntmps29
        go_wp2_with (first
          | (go_at_call 12; refine (top_yes _ _ _ h0 h1 d0 d1).mono ?_; rintro e w' ⟨rfl, rfl⟩)
          | (go_at_call 56; refine (prefixed_yes _ _ _ HP.out).mono ?_; rintro e w' ⟨rfl, rfl⟩))
        go_ret
        exact ⟨by rw [hw.out]; rfl, Below.refl _ _⟩
      · have hw := Lib.hid (show withinB h p d = false from decide_eq_false fun hx => ht hx.2.2.2.2)
        have ht' : (h / 2 ^ (64 - d).toNat == p) = false := by simpa using ht
        clear hp ht hE
        go_enter Tryd.func29, Tryd.ntmps29
        go_wp2_with (first
          | (go_at_call 12; refine (top_yes _ _ _ h0 h1 d0 d1).mono ?_; rintro e w' ⟨rfl, rfl⟩)
          | (go_at_call 56; refine (prefixed_yes _ _ _ HP.out).mono ?_; rintro e w' ⟨rfl, rfl⟩))
        go_ret
        exact ⟨by rw [hw.out]; rfl, Below.refl _ _⟩
    · have hw := Lib.hid (show withinB h p d = false from decide_eq_false fun hx => hp ⟨hx.1, hx.2.1, hx.2.2.1, hx.2.2.2.1⟩)
      have HP := Lib.hid hp
      clear hp hE
      go_enter Tryd.func29, Tryd.ntmps29
      go_wp2_with (first
        | (go_at_call 12; refine (top_yes _ _ _ h0 h1 d0 d1).mono ?_; rintro e w' ⟨rfl, rfl⟩)
        | (go_at_call 56; refine (prefixed_no _ _ _ HP.out).mono ?_; rintro e w' ⟨rfl, rfl⟩))
      go_ret
      exact ⟨by rw [hw.out]; rfl, Below.refl _ _⟩
  · have hw := Lib.hid (show withinB h p d = false from decide_eq_false fun hx => hd ⟨hx.1, hx.2.1⟩)
    have HD := Lib.hid hd
    have HE := Lib.hid hE
    clear hd hE
    go_enter Tryd.func29, Tryd.ntmps29
    go_wp2_with (go_at_call 12; refine (top_no _ _ _ ea HE.out HD.out).mono ?_; rintro e w' ⟨rfl, hb⟩)
    go_ret
    exact ⟨by rw [hw.out]; rfl, hb⟩

/-! ### the order -/
def cmpI (x y : Int) : Int := if x < y then -1 else if y < x then 1 else 0
def orI (x y : Int) : Int := if x = 0 then y else x

set_option maxHeartbeats 400000 in
theorem cmp_any (x y : Int) (w : World)  :
    Calls Tryd.prog 58 #[.int .u64 x, .int .u64 y] w fun e w' => e = .returned (.int .i64 (cmpI x y)) ∧ w = w' := by
  unfold cmpI
  go_enter Tryd.func58, Tryd.ntmps58
  go_wp2
  all_goals
    go_ret
    exact ⟨rfl, rfl⟩

set_option maxHeartbeats 400000 in
theorem or_two (x y : Int) (b : Nat) (w : World) (h0 : w.cell? ⟨b, 0, none⟩ = some (.int .i64 x)) (h1 : w.cell? ⟨b, 1, none⟩ = some (.int .i64 y)) :
    Calls Tryd.prog 57 #[.slice (some ⟨b, 0, none⟩) 2 2] w fun e w' => e = .returned (.int .i64 (orI x y)) ∧ w = w' := by
  unfold orI
  by_cases hx : x = 0
  · subst hx
    rw [if_pos rfl]
    by_cases hy : y = 0
    · subst hy
      go_enter Tryd.func57, Tryd.ntmps57
      go_wp2
      refine wp_loop_rounds 3 ?_
      rw [rounds_succ]
      go_wp2
      rw [rounds_succ]
      go_wp2
      rw [rounds_succ]
      go_wp2
      go_ret
      exact ⟨rfl, rfl⟩
    · have hy' : (y != 0) = true := by simpa using hy
      clear hy
      go_enter Tryd.func57, Tryd.ntmps57
      go_wp2
      refine wp_loop_rounds 3 ?_
      rw [rounds_succ]
      go_wp2
      rw [rounds_succ]
      go_wp2
      go_ret
      exact ⟨rfl, rfl⟩
  · have hx' : (x != 0) = true := by simpa using hx
    rw [if_neg hx]
    clear hx
    go_enter Tryd.func57, Tryd.ntmps57
    go_wp2
    refine wp_loop_rounds 3 ?_
    rw [rounds_succ]
    go_wp2
    go_ret
    exact ⟨rfl, rfl⟩

/-- (h1, k1) ahead of (h2, k2), by hash and then by key. -/
def lessB (h1 k1 h2 k2 : Int) : Bool := decide (h1 < h2) || (h1 == h2 && decide (k1 < k2))
theorem less_val (h1 h2 k1 k2 : Int) : decide (orI (cmpI h1 h2) (cmpI k1 k2) < 0) = lessB h1 k1 h2 k2 := by
  rw [Bool.eq_iff_iff]; simp only [lessB, orI, cmpI, Bool.or_eq_true, Bool.and_eq_true, decide_eq_true_eq, beq_iff_eq]
  by_cases a : h1 < h2 <;> by_cases b : h2 < h1 <;> by_cases c : k1 < k2 <;> by_cases d : k2 < k1 <;> simp [a, b, c, d] <;> omega

/-- An entry as a value. -/
abbrev entV (k v h : Int) : Value := .agg #[.int .u64 k, .int .u64 v, .int .u64 h]

set_option maxHeartbeats 400000 in
set_option maxRecDepth 100000 in
theorem less_any (k1 v1 h1 k2 v2 h2 : Int) (w : World)  :
    Calls Tryd.prog 30 #[entV k1 v1 h1, entV k2 v2 h2] w fun e w' => e = .returned (.bool (lessB h1 k1 h2 k2)) ∧ Below w.heap.size w w' := by
  have hv := Lib.hid (less_val h1 h2 k1 k2)
  go_enter Tryd.func30, Tryd.ntmps30
  go_wp2
  generalize hw0 : (w.alloc (Obj.cells #[Value.int IntKind.u64 k1, Value.int IntKind.u64 v1, Value.int IntKind.u64 h1] 42)).alloc (Obj.cells #[Value.int IntKind.u64 k2, Value.int IntKind.u64 v2, Value.int IntKind.u64 h2] 42) = w0
  refine region_tail (C := Below w0.heap.size w0) 10 (by kernel_rfl) (by kernel_rfl) (below_drew _) ?_
  simp only [List.take_succ_cons, List.take_zero, List.drop_succ_cons, List.drop_zero]
  have cs : ∀ w', Below w0.heap.size w0 w' → w'.cell? ⟨w.heap.size, 2, none⟩ = some (.int .u64 h1) ∧ w'.cell? ⟨w.heap.size, 0, none⟩ = some (.int .u64 k1) ∧ w'.cell? ⟨w.heap.size + 1, 2, none⟩ = some (.int .u64 h2) ∧ w'.cell? ⟨w.heap.size + 1, 0, none⟩ = some (.int .u64 k2) := by
    intro w' hb
    refine ⟨(hb.cell ?_).trans ?_, (hb.cell ?_).trans ?_, (hb.cell ?_).trans ?_, (hb.cell ?_).trans ?_⟩ <;> subst hw0 <;> go_simp
    all_goals omega
  have hs0 : w0.heap.size = w.heap.size + 2 := by subst hw0; simp
  have hb0 : Below w.heap.size w w0 := by subst hw0; exact ((Below.refl _ _).alloc (Nat.le_refl _) _).alloc (by simp) _
  clear hw0
  replace cs := Lib.hid cs
  replace hs0 := Lib.hid hs0
  repeat (refine wpQuiet_step (fun K hK => ?_); refine (if_pos rfl).mpr ?_; apply quiet_mk; (focus (intro w' hw'; have css := cs.out w' hw'; obtain ⟨css1, css2, css3, css4⟩ := css; go_simp; first | exact rfl | exact quiet_call_same hw' (cmp_any _ _ _))); refine hK _ ?_; clear hK K; simp only [Act.put, List.setIfInBounds_toArray, List.set])
  refine wpQuiet_nil ?_
  intro w1 hb1
  go_wp2_with (go_at_call 57; refine (or_two (cmpI h1 h2) (cmpI k1 k2) _ _ ?_ ?_).mono ?_; go_simp; go_simp; rintro e w' ⟨rfl, rfl⟩)
  go_ret
  refine ⟨?_, ?_⟩
  · rw [← hv.out]; rfl
  · have := hs0.out
    have h3 := hb1.size
    exact ((hb0.trans (hb1.mono (by omega))).alloc (by omega) _)

theorem before_any (k1 v1 h1 k2 v2 h2 : Int) (w : World)  :
    Calls Tryd.prog 23 #[entV k1 v1 h1, entV k2 v2 h2] w fun e w' => e = .returned (.bool (lessB h1 k1 h2 k2)) ∧ Below w.heap.size w w' := by
  by_cases hh : h1 = h2
  · subst hh
    have hl := Lib.hid (show decide (k1 < k2) = lessB h1 k1 h1 k2 by simp [lessB])
    go_enter Tryd.func23, Tryd.ntmps23
    go_wp2
    go_ret
    exact ⟨by rw [← hl.out]; rfl, ((Below.refl _ _).alloc (Nat.le_refl _) _).alloc (by simp) _⟩
  · have hb : (h1 != h2) = true := by simpa using hh
    have hl := Lib.hid (show decide (h1 < h2) = lessB h1 k1 h2 k2 by simp [lessB, hh])
    clear hh
    go_enter Tryd.func23, Tryd.ntmps23
    go_wp2
    go_ret
    exact ⟨by rw [← hl.out]; rfl, ((Below.refl _ _).alloc (Nat.le_refl _) _).alloc (by simp) _⟩

/-- What comes behind an entry: the hash, the key, whether there is one. -/
def afterH (k h : Int) : Int := if k < 18446744073709551615 then h else if h < 18446744073709551615 then h + 1 else 0
def afterK (k : Int) : Int := if k < 18446744073709551615 then k + 1 else 0
def afterB (k h : Int) : Bool := decide (k < 18446744073709551615) || decide (h < 18446744073709551615)
theorem after_key (k v h : Int) (w : World) (k0 : 0 ≤ k) (hk : k < 18446744073709551615) :
    Calls Tryd.prog 31 #[entV k v h] w fun e w' => e = .returned (.tuple #[.int .u64 h, .int .u64 (k + 1), .bool true]) ∧ Below w.heap.size w w' := by
  go_enter Tryd.func31, Tryd.ntmps31
  go_wp2
  go_quiet (fail)
  go_wp2
  go_ret3
  exact ⟨rfl, below_drewN ((Below.refl _ _).alloc (Nat.le_refl _) _) _⟩
theorem after_hash (k v h : Int) (w : World) (hk : ¬ k < 18446744073709551615) (h0 : 0 ≤ h) (hh : h < 18446744073709551615) :
    Calls Tryd.prog 31 #[entV k v h] w fun e w' => e = .returned (.tuple #[.int .u64 (h + 1), .int .u64 0, .bool true]) ∧ Below w.heap.size w w' := by
  go_enter Tryd.func31, Tryd.ntmps31
  go_wp2
  go_ret3
  exact ⟨rfl, (Below.refl _ _).alloc (Nat.le_refl _) _⟩
theorem after_none (k v h : Int) (w : World) (hk : ¬ k < 18446744073709551615) (hh : ¬ h < 18446744073709551615) :
    Calls Tryd.prog 31 #[entV k v h] w fun e w' => e = .returned (.tuple #[.int .u64 0, .int .u64 0, .bool false]) ∧ Below w.heap.size w w' := by
  go_enter Tryd.func31, Tryd.ntmps31
  go_wp2
  go_ret3
  exact ⟨rfl, (Below.refl _ _).alloc (Nat.le_refl _) _⟩
theorem after_any (k v h : Int) (w : World) (k0 : 0 ≤ k) (h0 : 0 ≤ h) :
    Calls Tryd.prog 31 #[entV k v h] w fun e w' => e = .returned (.tuple #[.int .u64 (afterH k h), .int .u64 (afterK k), .bool (afterB k h)]) ∧ Below w.heap.size w w' := by
  by_cases hk : k < 18446744073709551615
  · have := after_key k v h w k0 hk
    simpa [afterH, afterK, afterB, hk] using this
  · by_cases hh : h < 18446744073709551615
    · have := after_hash k v h w hk h0 hh
      simpa [afterH, afterK, afterB, hk, hh] using this
    · have := after_none k v h w hk hh
      simpa [afterH, afterK, afterB, hk, hh] using this

end Go.Proofs.YtacdbgoffepaaaaDoor
