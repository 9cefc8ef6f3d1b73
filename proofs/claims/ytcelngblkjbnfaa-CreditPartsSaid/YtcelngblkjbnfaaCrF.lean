/-
  Packages math, credit and the document's ledger: what Whole answers, by contracts.
-/
import Derived.Test.YtcelngblkjbnfaaRows
import Derived.Test.YtcelngblkjbnfaaKit
import Derived.Test.YtcelngblkjbnfaaFloCls
import Derived.Laws.FloatArith
import Derived.Laws.Cover2
namespace Go.Proofs.Ytcelngblkjbnfaa
open Go.RowKit

theorem isNaN_any (b : Nat) (w : World) :
    Calls Try.prog 20 #[.float .f64 b] w fun e w' => e = .returned (.bool (FloatKind.f64.format.order b b != some .eq)) ∧ w = w' := by
  go_enter Try.func20, Try.ntmps20
  go_wp2
  go_ret
  exact ⟨rfl, rfl⟩

theorem floor_ext (b t : Nat) (hb : b < 2047 * 2 ^ 52) (ht : Ieee.double.write ((Ieee.double.read b).integral .down) = t) (w : World) :
    (Extern.MathFloor.toIntegral "math.archFloor" .down #[.float .f64 b]).run Try.prog w = .ok (.float .f64 t) w := by
  obtain ⟨m, i, e, _⟩ := Ieee.read_units b hb
  subst ht
  have e2 : FloatKind.f64.decode b = .number false m i := e
  have e3 : Extern.MathFloor.toIntegral "math.archFloor" .down #[.float .f64 b] = Extern.MathFloor.toIntegral.match_1 (motive := fun _ => Sem Value) (FloatKind.f64.decode b) _ _ := rfl
  rw [e3, e2, e]
  rfl

theorem Floor_any (b t : Nat) (hb : b < 2047 * 2 ^ 52) (ht : Ieee.double.write ((Ieee.double.read b).integral .down) = t) (w : World) :
    Calls Try.prog 21 #[.float .f64 b] w fun e w' => e = .returned (.float .f64 t) ∧ w = w' := by
  have h := @run_callFunc_extern Try.prog 22 _ (Extern.MathFloor.toIntegral "math.archFloor" .down) Try.func22 (by kernel_rfl) (by kernel_rfl) (by kernel_rfl) (by kernel_rfl)
  have h2 := floor_ext b t hb ht
  clear hb ht
  go_enter Try.func21, Try.ntmps21
  go_wp2
  go_ret
  exact ⟨rfl, rfl⟩

theorem creditWhole_nan (b : Nat) (h : (FloatKind.f64.format.order b b != some .eq) = true) (w : World) :
    Calls Try.prog 8 #[.float .f64 b] w fun e w' => e = .returned (.tuple #[.int .i64 0, .float .f64 0]) ∧ w = w' := by
  go_enter Try.func8, Try.ntmps8
  go_wp2_with (go_at_call 20; refine (isNaN_any b _).mono ?_; rintro e w1 ⟨rfl, rfl⟩)
  go_ret2
  exact ⟨rfl, rfl⟩
theorem creditWhole_low (b : Nat) (h : (FloatKind.f64.format.order b b != some .eq) = false) (h2 : (FloatKind.f64.format.order b 0 == some .lt || FloatKind.f64.format.order b 0 == some .eq) = true) (w : World) :
    Calls Try.prog 8 #[.float .f64 b] w fun e w' => e = .returned (.tuple #[.int .i64 0, .float .f64 0]) ∧ w = w' := by
  go_enter Try.func8, Try.ntmps8
  go_wp2_with (go_at_call 20; refine (isNaN_any b _).mono ?_; rintro e w1 ⟨rfl, rfl⟩)
  go_ret2
  exact ⟨rfl, rfl⟩
theorem creditWhole_high (b : Nat) (h : (FloatKind.f64.format.order b b != some .eq) = false) (h2 : (FloatKind.f64.format.order b 0 == some .lt || FloatKind.f64.format.order b 0 == some .eq) = false)
    (h3 : (FloatKind.f64.format.order b 4787326403894837248 == some .gt || FloatKind.f64.format.order b 4787326403894837248 == some .eq) = true) (w : World) :
    Calls Try.prog 8 #[.float .f64 b] w fun e w' => e = .returned (.tuple #[.int .i64 1099511627776, .float .f64 0]) ∧ w = w' := by
  go_enter Try.func8, Try.ntmps8
  go_wp2_with (go_at_call 20; refine (isNaN_any b _).mono ?_; rintro e w1 ⟨rfl, rfl⟩)
  go_ret2
  exact ⟨rfl, rfl⟩
theorem creditWhole_mid (b t d : Nat) (n : Int) (hF : Hid (∀ w, Calls Try.prog 21 #[.float .f64 b] w fun e w' => e = .returned (.float .f64 t) ∧ w = w'))
    (h : (FloatKind.f64.format.order b b != some .eq) = false) (h2 : (FloatKind.f64.format.order b 0 == some .lt || FloatKind.f64.format.order b 0 == some .eq) = false)
    (h3 : (FloatKind.f64.format.order b 4787326403894837248 == some .gt || FloatKind.f64.format.order b 4787326403894837248 == some .eq) = false)
    (hc : ∀ w : World, (convert 22 3 (.float .f64 t)).run Try.prog w = .ok (.int .i64 n) w) (hs : ∀ w : World, (binOp .sub 22 (.float .f64 b) (.float .f64 t)).run Try.prog w = .ok (.float .f64 d) w) (w : World) :
    Calls Try.prog 8 #[.float .f64 b] w fun e w' => e = .returned (.tuple #[.int .i64 n, .float .f64 d]) ∧ w = w' := by
  go_enter Try.func8, Try.ntmps8
  go_wp2_with (first | (go_at_call 20; refine (isNaN_any b _).mono ?_; rintro e w1 ⟨rfl, rfl⟩) | (go_at_call 21; refine (hF.out _).mono ?_; rintro e w1 ⟨rfl, rfl⟩))
  go_ret2
  exact ⟨rfl, rfl⟩

theorem refWhole_low (b : Nat) (h2 : (FloatKind.f64.format.order b 0 == some .gt) = false) (w : World) :
    Calls Try.prog 9 #[.float .f64 b] w fun e w' => e = .returned (.tuple #[.int .i64 0, .float .f64 0]) ∧ w = w' := by
  go_enter Try.func9, Try.ntmps9
  go_wp2
  go_ret2
  exact ⟨rfl, rfl⟩
theorem refWhole_high (b : Nat) (h2 : (FloatKind.f64.format.order b 0 == some .gt) = true)
    (h3 : (FloatKind.f64.format.order b 4787326403894837248 == some .gt || FloatKind.f64.format.order b 4787326403894837248 == some .eq) = true) (w : World) :
    Calls Try.prog 9 #[.float .f64 b] w fun e w' => e = .returned (.tuple #[.int .i64 1099511627776, .float .f64 0]) ∧ w = w' := by
  go_enter Try.func9, Try.ntmps9
  go_wp2
  go_ret2
  exact ⟨rfl, rfl⟩
theorem refWhole_mid (b t d : Nat) (n : Int) (h2 : (FloatKind.f64.format.order b 0 == some .gt) = true)
    (h3 : (FloatKind.f64.format.order b 4787326403894837248 == some .gt || FloatKind.f64.format.order b 4787326403894837248 == some .eq) = false)
    (hc : ∀ w : World, (convert 22 3 (.float .f64 b)).run Try.prog w = .ok (.int .i64 n) w) (hv : floatOfInt .f64 n = t) (hs : ∀ w : World, (binOp .sub 22 (.float .f64 b) (.float .f64 t)).run Try.prog w = .ok (.float .f64 d) w) (w : World) :
    Calls Try.prog 9 #[.float .f64 b] w fun e w' => e = .returned (.tuple #[.int .i64 n, .float .f64 d]) ∧ w = w' := by
  have hc2 : ∀ w : World, (convert 3 22 (.int .i64 n)).run Try.prog w = .ok (.float .f64 t) w := fun w => by
    rw [← hv]
    exact run_convert_int_float w 3 22 .i64 .f64 n (by kernel_rfl) Try.underlying22
  clear hv
  go_enter Try.func9, Try.ntmps9
  go_wp2
  go_ret2
  exact ⟨rfl, rfl⟩

/-- Of every double the two agree: n whole ones and d, a double below 1. -/
theorem whole_both (b : Nat) (hb : b < 2 ^ 64) : ∃ n d : Nat, n ≤ 1099511627776 ∧ d < 1023 * 2 ^ 52 ∧
    (∀ w, Calls Try.prog 8 #[.float .f64 b] w fun e w' => e = .returned (.tuple #[.int .i64 n, .float .f64 d]) ∧ w = w') ∧
    (∀ w, Calls Try.prog 9 #[.float .f64 b] w fun e w' => e = .returned (.tuple #[.int .i64 n, .float .f64 d]) ∧ w = w') ∧
    ((FloatKind.f64.format.order b b != some .eq) = true ∧ n = 0 ∨ (FloatKind.f64.format.order b b != some .eq) = false ∧ (FloatKind.f64.format.order b 0 == some .lt || FloatKind.f64.format.order b 0 == some .eq) = true ∧ n = 0 ∨
      (FloatKind.f64.format.order b b != some .eq) = false ∧ (FloatKind.f64.format.order b 0 == some .lt || FloatKind.f64.format.order b 0 == some .eq) = false ∧ (FloatKind.f64.format.order b 0 == some .gt) = true) := by
  cases Ieee.classify b hb with
  | nan h1 h2 =>
    have g1 : (FloatKind.f64.format.order b b != some .eq) = true := by show (Ieee.double.order b b != some .eq) = true; rw [h1]; rfl
    have g2 : (FloatKind.f64.format.order b 0 == some .gt) = false := by show (Ieee.double.order b 0 == some .gt) = false; rw [h2]; rfl
    exact ⟨0, 0, by decide, by decide, fun w => creditWhole_nan b g1 w, fun w => refWhole_low b g2 w, .inl ⟨g1, rfl⟩⟩
  | low h1 h2 =>
    have g1 : (FloatKind.f64.format.order b b != some .eq) = false := by show (Ieee.double.order b b != some .eq) = false; rw [h1]; rfl
    have g2 : (FloatKind.f64.format.order b 0 == some .gt) = false := by show (Ieee.double.order b 0 == some .gt) = false; rcases h2 with h2 | h2 <;> rw [h2] <;> rfl
    have g3 : (FloatKind.f64.format.order b 0 == some .lt || FloatKind.f64.format.order b 0 == some .eq) = true := by
      show (Ieee.double.order b 0 == some .lt || Ieee.double.order b 0 == some .eq) = true; rcases h2 with h2 | h2 <;> rw [h2] <;> rfl
    exact ⟨0, 0, by decide, by decide, fun w => creditWhole_low b g1 g3 w, fun w => refWhole_low b g2 w, .inr (.inl ⟨g1, g3, rfl⟩)⟩
  | high h1 h2 h3 =>
    have g1 : (FloatKind.f64.format.order b b != some .eq) = false := by show (Ieee.double.order b b != some .eq) = false; rw [h1]; rfl
    have g2 : (FloatKind.f64.format.order b 0 == some .gt) = true := by show (Ieee.double.order b 0 == some .gt) = true; rw [h2]; rfl
    have g3 : (FloatKind.f64.format.order b 0 == some .lt || FloatKind.f64.format.order b 0 == some .eq) = false := by
      show (Ieee.double.order b 0 == some .lt || Ieee.double.order b 0 == some .eq) = false; rw [h2]; rfl
    have g4 : (FloatKind.f64.format.order b 4787326403894837248 == some .gt || FloatKind.f64.format.order b 4787326403894837248 == some .eq) = true := by
      show (Ieee.double.order b 4787326403894837248 == some .gt || Ieee.double.order b 4787326403894837248 == some .eq) = true; rcases h3 with h3 | h3 <;> rw [h3] <;> rfl
    exact ⟨1099511627776, 0, by decide, by decide, fun w => creditWhole_high b g1 g3 g4 w, fun w => refWhole_high b g2 g4 w, .inr (.inr ⟨g1, g3, g2⟩)⟩
  | mid h1 h2 =>
    obtain ⟨n, t, d, hn, hi, ht, hw, hs, hd, hti⟩ := Ieee.whole_rest 1074 b rfl h2
    have o0 : Ieee.double.order b 0 = some .gt := by rw [Ieee.order_rung b 0 (by omega) (by decide), if_neg (by omega), if_neg (by omega)]
    have o1 : Ieee.double.order b b = some .eq := by rw [Ieee.order_rung b b (by omega) (by omega), if_neg (by omega), if_pos rfl]
    have o2 : Ieee.double.order b 4787326403894837248 = some .lt := by rw [Ieee.order_rung b _ (by omega) (by decide), if_pos (by omega)]
    have g1 : (FloatKind.f64.format.order b b != some .eq) = false := by show (Ieee.double.order b b != some .eq) = false; rw [o1]; rfl
    have g2 : (FloatKind.f64.format.order b 0 == some .gt) = true := by show (Ieee.double.order b 0 == some .gt) = true; rw [o0]; rfl
    have g3 : (FloatKind.f64.format.order b 0 == some .lt || FloatKind.f64.format.order b 0 == some .eq) = false := by
      show (Ieee.double.order b 0 == some .lt || Ieee.double.order b 0 == some .eq) = false; rw [o0]; rfl
    have g4 : (FloatKind.f64.format.order b 4787326403894837248 == some .gt || FloatKind.f64.format.order b 4787326403894837248 == some .eq) = false := by
      show (Ieee.double.order b 4787326403894837248 == some .gt || Ieee.double.order b 4787326403894837248 == some .eq) = false; rw [o2]; rfl
    have hF := Lib.hid (Floor_any b t (by omega) (by rw [hi]; exact hw))
    have toI : ∀ x : Nat, (Ieee.double.read x).toInt .zero = some (n : Int) → floatToIntVal .f64 x .i64 = some (n : Int) := by
      intro x hx
      unfold floatToIntVal
      rw [show (FloatKind.f64.decode x).toInt .zero = some (n : Int) from hx]
      have hr : IntKind.i64.min ≤ (n : Int) ∧ (n : Int) ≤ IntKind.i64.max := by
        show (-9223372036854775808 : Int) ≤ (n : Int) ∧ (n : Int) ≤ 9223372036854775807
        omega
      simp only [hr, and_self, if_true]
    have hc : ∀ x, (Ieee.double.read x).toInt .zero = some (n : Int) → ∀ w : World, (convert 22 3 (.float .f64 x)).run Try.prog w = .ok (.int .i64 n) w := fun x hx w =>
      run_convert_float_int w 22 3 .f64 .i64 x n (by kernel_rfl) Try.underlying3 (toI x hx)
    have hsub : ∀ w : World, (binOp .sub 22 (.float .f64 b) (.float .f64 t)).run Try.prog w = .ok (.float .f64 d) w := fun w => run_float_arith w .sub _ .f64 b t d hs
    have hv : floatOfInt .f64 (n : Int) = t := by
      rw [← hw]
      show Ieee.double.write (.number (decide ((n : Int) < 0)) (n : Int).natAbs 0) = _
      have e1 : decide ((n : Int) < 0) = false := by simp
      rw [e1, Int.natAbs_natCast]
    exact ⟨n, d, by omega, hd, fun w => creditWhole_mid b t d n hF g1 g3 g4 (hc t hti) hsub w, fun w => refWhole_mid b t d n g2 g4 (hc b ht) hv hsub w, .inr (.inr ⟨g1, g3, g2⟩)⟩
end Go.Proofs.Ytcelngblkjbnfaa
