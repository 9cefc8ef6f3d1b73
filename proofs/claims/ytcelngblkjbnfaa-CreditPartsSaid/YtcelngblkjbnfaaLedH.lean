/-
  Earn, where the rest comes to 1.
-/
import Derived.Test.YtcelngblkjbnfaaLed
namespace Go.Proofs.Ytcelngblkjbnfaa
open Go.RowKit

/-- Earn, where the rest comes to 1. -/
theorem led_earn_high (b : Nat) (bal : Int) (rest f : Nat) (n d c s : Nat) (hW : Hid (∀ w, Calls Try.prog 8 #[.float .f64 f] w fun e w' => e = .returned (.tuple #[.int .i64 n, .float .f64 d]) ∧ w = w'))
    (ha : Ieee.double.add rest d = some c) (hc : (FloatKind.f64.format.order c 4607182418800017408 == some .gt || FloatKind.f64.format.order c 4607182418800017408 == some .eq) = true)
    (hs : Ieee.double.sub c 4607182418800017408 = some s)
    (w : World) (H : LedAt w b bal rest) (h0 : 0 ≤ bal) (h1 : bal ≤ 1099511627776) :
    Calls Try.prog 10 #[.pointer (some ⟨b, 0, none⟩), .float .f64 f] w fun e w' => e = .returned (.int .i64 (depo bal n + depo (bal + depo bal n) 1)) ∧ LedAt w' b (bal + depo bal n + depo (bal + depo bal n) 1) s ∧ But b w w' := by
  obtain ⟨c0, c1, f0, f1⟩ := H.cells
  have HS := Lib.hid H
  have HL1 := Lib.hid (fun w H => led_deposit b bal c n w H h0 h1)
  have HL2 := Lib.hid (fun w H => led_deposit b (bal + depo bal n) s 1 w H (depo_in bal n h0 h1).1 (depo_in bal n h0 h1).2)
  have hst := store_f
  have hv : ∀ w : World, (binOp .add 22 (.float .f64 rest) (.float .f64 d)).run Try.prog w = .ok (.float .f64 c) w := run_fadd _ _ _ ha
  have hv2 : ∀ w : World, (binOp .sub 22 (.float .f64 c) (.float .f64 4607182418800017408)).run Try.prog w = .ok (.float .f64 s) w := run_fsub _ _ _ hs
  have hr : depo bal n + depo (bal + depo bal n) 1 ≤ 1099511627776 ∧ 0 ≤ depo bal n + depo (bal + depo bal n) 1 := by
    unfold depo
    omega
  obtain ⟨hr1, hr2⟩ := hr
  clear H ha hs h0 h1
  generalize depo (bal + depo bal n) 1 = m2 at *
  generalize bal + depo bal n = bal1 at *
  generalize depo bal n = m1 at *
  go_enter Try.func10, Try.ntmps10
  go_upto_region 6 with (first | (go_at_call 8; refine (hW.out _).mono ?_; rintro e w1 ⟨rfl, rfl⟩) | (go_at_call 14; refine (HL1.out _ (led_setf HS.out _)).mono ?_; rintro e w2 ⟨rfl, hL, hb⟩; replace HS := Lib.hid hL; obtain ⟨k0, k1, l0, l1⟩ := hL.cells))
  go_wp2_with (go_at_call 14; refine (HL2.out _ (led_setf HS.out _)).mono ?_; rintro e w3 ⟨rfl, hL2, hb2⟩)
  go_ret
  exact ⟨rfl, hL2, (((But.refl _ _).set_ 1 _).trans hb).trans (((But.refl _ _).set_ 1 _).trans hb2)⟩

theorem ref_earn_high (b : Nat) (bal : Int) (rest f : Nat) (n d c s : Nat) (hW : Hid (∀ w, Calls Try.prog 9 #[.float .f64 f] w fun e w' => e = .returned (.tuple #[.int .i64 n, .float .f64 d]) ∧ w = w'))
    (ha : Ieee.double.add rest d = some c) (hc : (FloatKind.f64.format.order c 4607182418800017408 == some .gt || FloatKind.f64.format.order c 4607182418800017408 == some .eq) = true)
    (hs : Ieee.double.sub c 4607182418800017408 = some s)
    (w : World) (H : RefAt w b bal rest) (h0 : 0 ≤ bal) (h1 : bal ≤ 1099511627776) :
    Calls Try.prog 16 #[.pointer (some ⟨b, 0, none⟩), .float .f64 f] w fun e w' => e = .returned (.int .i64 (depo bal n + depo (bal + depo bal n) 1)) ∧ RefAt w' b (bal + depo bal n + depo (bal + depo bal n) 1) s ∧ But b w w' := by
  have HS := Lib.hid H
  have HL1 := Lib.hid (fun w H => ref_deposit b bal rest n w H h0 h1)
  have HL2 := Lib.hid (fun w H => ref_deposit b (bal + depo bal n) rest 1 w H (depo_in bal n h0 h1).1 (depo_in bal n h0 h1).2)
  have hst := store_f
  have hv : ∀ w : World, (binOp .add 22 (.float .f64 rest) (.float .f64 d)).run Try.prog w = .ok (.float .f64 c) w := run_fadd _ _ _ ha
  have hv2 : ∀ w : World, (binOp .sub 22 (.float .f64 c) (.float .f64 4607182418800017408)).run Try.prog w = .ok (.float .f64 s) w := run_fsub _ _ _ hs
  have hr : depo bal n + depo (bal + depo bal n) 1 ≤ 1099511627776 ∧ 0 ≤ depo bal n + depo (bal + depo bal n) 1 := by
    unfold depo
    omega
  obtain ⟨hr1, hr2⟩ := hr
  clear H ha hs h0 h1
  generalize depo (bal + depo bal n) 1 = m2 at *
  generalize bal + depo bal n = bal1 at *
  generalize depo bal n = m1 at *
  go_enter Try.func16, Try.ntmps16
  go_upto_region 6 with (first | (go_at_call 9; refine (hW.out _).mono ?_; rintro e w1 ⟨rfl, rfl⟩) | (go_at_call 15; refine (HL1.out _ HS.out).mono ?_; rintro e w2 ⟨rfl, hL, hb⟩; replace HS := Lib.hid hL; obtain ⟨k0, k1, l0, l1⟩ := hL.cells))
  go_wp2_with (go_at_call 15; refine (HL2.out _ HS.out).mono ?_; rintro e w3 ⟨rfl, hL2, hb2⟩; obtain ⟨k0, k1, l0, l1⟩ := hL2.cells)
  go_ret
  exact ⟨rfl, Blk.set_ hL2 1 _, (hb.trans hb2).trans ((But.refl _ _).set_ 1 _)⟩
end Go.Proofs.Ytcelngblkjbnfaa
