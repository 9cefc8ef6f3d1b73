/-
  Earn of both ledgers alike, and the chapter's example.
-/
import Derived.Test.YtcelngblkjbnfaaLedH
namespace Go.Proofs.Ytcelngblkjbnfaa
open Go.RowKit

theorem earn_both (f rest : Nat) (hf : f < 2 ^ 64) (hr : rest < 1023 * 2 ^ 52) (bal : Int) (h0 : 0 ≤ bal) (h1 : bal ≤ 1099511627776) : ∃ (m : Int) (r2 : Nat), 0 ≤ m ∧ bal + m ≤ 1099511627776 ∧ r2 < 1023 * 2 ^ 52 ∧
    (∀ b w, LedAt w b bal rest → Calls Try.prog 10 #[.pointer (some ⟨b, 0, none⟩), .float .f64 f] w fun e w' => e = .returned (.int .i64 m) ∧ LedAt w' b (bal + m) r2 ∧ But b w w') ∧
    (∀ b w, RefAt w b bal rest → Calls Try.prog 16 #[.pointer (some ⟨b, 0, none⟩), .float .f64 f] w fun e w' => e = .returned (.int .i64 m) ∧ RefAt w' b (bal + m) r2 ∧ But b w w') := by
  obtain ⟨n, d, hn, hd, hC, hR, _⟩ := whole_both f hf
  obtain ⟨c, hc, hc2⟩ := Ieee.add_below rest d hr hd
  by_cases hlow : c < 1023 * 2 ^ 52
  · have o : (FloatKind.f64.format.order c 4607182418800017408 == some .gt || FloatKind.f64.format.order c 4607182418800017408 == some .eq) = false := by
      show (Ieee.double.order c 4607182418800017408 == some .gt || Ieee.double.order c 4607182418800017408 == some .eq) = false
      rw [Ieee.order_rung c _ (by omega) (by decide), if_pos (by omega)]; rfl
    refine ⟨depo bal n, c, ?_, (depo_in bal n h0 h1).2, hlow, fun b w H => led_earn_low b bal rest f n d c (Lib.hid hC) hc o w H h0 h1, fun b w H => ref_earn_low b bal rest f n d c (Lib.hid hR) hc o w H h0 h1⟩
    unfold depo
    omega
  · have o : (FloatKind.f64.format.order c 4607182418800017408 == some .gt || FloatKind.f64.format.order c 4607182418800017408 == some .eq) = true := by
      show (Ieee.double.order c 4607182418800017408 == some .gt || Ieee.double.order c 4607182418800017408 == some .eq) = true
      rw [Ieee.order_rung c _ (by omega) (by decide), if_neg (by omega)]
      split <;> rfl
    obtain ⟨s, hs, hs2⟩ := Ieee.sub_one c (by omega) hc2
    refine ⟨depo bal n + depo (bal + depo bal n) 1, s, ?_, ?_, hs2, fun b w H => ?_, fun b w H => ?_⟩
    · unfold depo
      omega
    · have := (depo_in (bal + depo bal n) 1 (depo_in bal n h0 h1).1 (depo_in bal n h0 h1).2).2
      omega
    · rw [← Int.add_assoc]
      exact led_earn_high b bal rest f n d c s (Lib.hid hC) hc o hs w H h0 h1
    · rw [← Int.add_assoc]
      exact ref_earn_high b bal rest f n d c s (Lib.hid hR) hc o hs w H h0 h1

theorem three_quarters (w : World) : Calls Try.prog 8 #[.float .f64 4604930618986332160] w fun e w' => e = .returned (.tuple #[.int .i64 ((0 : Nat) : Int), .float .f64 4604930618986332160]) ∧ w = w' :=
  creditWhole_mid 4604930618986332160 0 4604930618986332160 0 (Lib.hid (Floor_any _ _ (by decide) (by kernel_rfl))) (by kernel_rfl) (by kernel_rfl) (by kernel_rfl)
    (fun w => run_convert_float_int w 22 3 .f64 .i64 0 0 (by kernel_rfl) Try.underlying3 (by kernel_rfl)) (run_fsub _ _ _ (by kernel_rfl)) w
theorem al1 (b : Nat) (w : World) (H : LedAt w b 0 0) : Calls Try.prog 10 #[.pointer (some ⟨b, 0, none⟩), .float .f64 4604930618986332160] w fun e w' => e = .returned (.int .i64 0) ∧ LedAt w' b 0 4604930618986332160 ∧ But b w w' :=
  led_earn_low b 0 0 4604930618986332160 0 4604930618986332160 4604930618986332160 (Lib.hid three_quarters) (by kernel_rfl) (by kernel_rfl) w H (by decide) (by decide)
theorem al2 (b : Nat) (w : World) (H : LedAt w b 0 4604930618986332160) : Calls Try.prog 10 #[.pointer (some ⟨b, 0, none⟩), .float .f64 4604930618986332160] w fun e w' => e = .returned (.int .i64 1) ∧ LedAt w' b 1 4602678819172646912 ∧ But b w w' :=
  led_earn_high b 0 4604930618986332160 4604930618986332160 0 4604930618986332160 4609434218613702656 4602678819172646912 (Lib.hid three_quarters) (by kernel_rfl) (by kernel_rfl) (by kernel_rfl) w H (by decide) (by decide)

theorem alive_yes (w : World) : Calls Try.prog 7 #[] w fun e w' => e = .returned (.bool true) ∧ Below w.heap.size w w' := by
  have A1 := Lib.hid al1
  have A2 := Lib.hid al2
  have o : (FloatKind.f64.format.order 4602678819172646912 4602678819172646912 == some .eq) = true := by kernel_rfl
  go_enter Try.func7, Try.ntmps7
  go_upto_region 2 with fail
  generalize hw1 : w.alloc (Obj.cells #[Value.int IntKind.i64 0, Value.float FloatKind.f64 0] 30) = w1
  have HL : LedAt w1 w.heap.size 0 0 := by subst hw1; exact Blk.new w _ _
  have HS := Lib.hid HL
  have HB : Below w.heap.size w w1 := by subst hw1; exact (Below.refl _ _).alloc (Nat.le_refl _) _
  have HP := Lib.hid (And.intro HB HB.size)
  clear hw1 HL HB
  go_wp2_with (first | (go_at_call 10; refine (A1.out _ _ HS.out).mono ?_; rintro e w2 ⟨rfl, hL, hb⟩; replace HS := Lib.hid hL; clear hL) | (go_at_call 10; refine (A2.out _ _ HS.out).mono ?_; rintro e w3 ⟨rfl, hL, hb3⟩; replace HS := Lib.hid hL; clear hL) | (go_at_call 12; refine (led_rest _ _ _ _ HS.out).mono ?_; rintro e w4 ⟨rfl, rfl⟩) | (go_at_call 11; refine (led_balance _ _ _ _ HS.out).mono ?_; rintro e w4 ⟨rfl, rfl⟩))
  go_ret
  exact ⟨rfl, HP.out.1.trans ((hb.trans hb3).below (Nat.le_refl _) HP.out.2)⟩
end Go.Proofs.Ytcelngblkjbnfaa
