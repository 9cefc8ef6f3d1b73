/-
  The ledgers by contracts: credit's and the document's.
-/
import Derived.Test.YtcelngblkjbnfaaBut
import Derived.Test.YtcelngblkjbnfaaCrF
namespace Go.Proofs.Ytcelngblkjbnfaa
open Go.RowKit

def LedAt (w : World) (b : Nat) (bal : Int) (rest : Nat) : Prop := Blk w b 30 #[.int .i64 bal, .float .f64 rest]
def RefAt (w : World) (b : Nat) (bal : Int) (rest : Nat) : Prop := Blk w b 39 #[.int .i64 bal, .float .f64 rest]
section
variable {w w' : World} {b : Nat} {bal : Int} {rest : Nat}
theorem LedAt.cells (H : LedAt w b bal rest) : w.cell? ⟨b, 0, none⟩ = some (.int .i64 bal) ∧ w.cell? ⟨b, 1, none⟩ = some (.float .f64 rest) ∧ w.frozen? ⟨b, 0, none⟩ = false ∧ w.frozen? ⟨b, 1, none⟩ = false :=
  ⟨Blk.cell H 0, Blk.cell H 1, Blk.free H 0, Blk.free H 1⟩
theorem RefAt.cells (H : RefAt w b bal rest) : w.cell? ⟨b, 0, none⟩ = some (.int .i64 bal) ∧ w.cell? ⟨b, 1, none⟩ = some (.float .f64 rest) ∧ w.frozen? ⟨b, 0, none⟩ = false ∧ w.frozen? ⟨b, 1, none⟩ = false :=
  ⟨Blk.cell H 0, Blk.cell H 1, Blk.free H 0, Blk.free H 1⟩
end
theorem store_f (a : Addr) (x : Nat) (w : World) : (store a (.float .f64 x)).run Try.prog w = stored Try.prog w a (.float .f64 x) .plain := run_store _ w a _ _ rfl
theorem run_fadd (x y r : Nat) (h : Ieee.double.add x y = some r) (w : World) : (binOp .add 22 (.float .f64 x) (.float .f64 y)).run Try.prog w = .ok (.float .f64 r) w := run_float_arith w .add _ .f64 _ _ _ h
theorem run_fsub (x y r : Nat) (h : Ieee.double.sub x y = some r) (w : World) : (binOp .sub 22 (.float .f64 x) (.float .f64 y)).run Try.prog w = .ok (.float .f64 r) w := run_float_arith w .sub _ .f64 _ _ _ h
/-- How many of n are deposited over a balance. -/
def depo (bal n : Int) : Int := min (max n 0) (1099511627776 - bal)
/-- How many of n are taken. -/
def takes (bal n : Int) : Int := min (max n 0) bal

theorem led_balance (b : Nat) (bal : Int) (rest : Nat) (w : World) (H : LedAt w b bal rest) : Calls Try.prog 11 #[.pointer (some ⟨b, 0, none⟩)] w fun e w' => e = .returned (.int .i64 bal) ∧ w = w' := by
  obtain ⟨c0, c1, f0, f1⟩ := H.cells
  clear H
  go_enter Try.func11, Try.ntmps11
  go_wp2
  go_ret
  exact ⟨rfl, rfl⟩
theorem led_rest (b : Nat) (bal : Int) (rest : Nat) (w : World) (H : LedAt w b bal rest) : Calls Try.prog 12 #[.pointer (some ⟨b, 0, none⟩)] w fun e w' => e = .returned (.float .f64 rest) ∧ w = w' := by
  obtain ⟨c0, c1, f0, f1⟩ := H.cells
  clear H
  go_enter Try.func12, Try.ntmps12
  go_wp2
  go_ret
  exact ⟨rfl, rfl⟩

theorem ret_i64 {v : Value} {x y : Int} (hv : v = .int .i64 x) (h : x = y) : Ending.returned v = Ending.returned (.int .i64 y) := by rw [hv, h]
theorem led_set {w : World} {b : Nat} {bal x y : Int} {rest : Nat} (H : LedAt w b bal rest) (h : x = y) : LedAt (w.setCell ⟨b, 0, none⟩ (.int .i64 x)) b y rest := h ▸ Blk.set_ H 0 _
theorem led_setf {w : World} {b : Nat} {bal : Int} {rest : Nat} (H : LedAt w b bal rest) (x : Nat) : LedAt (w.setCell ⟨b, 1, none⟩ (.float .f64 x)) b bal x := Blk.set_ H 1 _
theorem ref_set {w : World} {b : Nat} {bal x y : Int} {rest : Nat} (H : RefAt w b bal rest) (h : x = y) : RefAt (w.setCell ⟨b, 0, none⟩ (.int .i64 x)) b y rest := h ▸ Blk.set_ H 0 _

theorem led_deposit (b : Nat) (bal : Int) (rest : Nat) (n : Int) (w : World) (H : LedAt w b bal rest) (h0 : 0 ≤ bal) (h1 : bal ≤ 1099511627776) :
    Calls Try.prog 14 #[.pointer (some ⟨b, 0, none⟩), .int .i64 n] w fun e w' => e = .returned (.int .i64 (depo bal n)) ∧ LedAt w' b (bal + depo bal n) rest ∧ But b w w' := by
  obtain ⟨c0, c1, f0, f1⟩ := H.cells
  have HH := Lib.hid H
  clear H
  go_enter Try.func14, Try.ntmps14
  go_wp2
  all_goals
    go_ret
    exact ⟨ret_i64 rfl (by unfold depo; omega), led_set HH.out (by unfold depo; omega), (But.refl _ _).set_ 0 _⟩
theorem led_take (b : Nat) (bal : Int) (rest : Nat) (n : Int) (w : World) (H : LedAt w b bal rest) (h0 : 0 ≤ bal) (h1 : bal ≤ 1099511627776) :
    Calls Try.prog 13 #[.pointer (some ⟨b, 0, none⟩), .int .i64 n] w fun e w' => e = .returned (.int .i64 (takes bal n)) ∧ LedAt w' b (bal - takes bal n) rest ∧ But b w w' := by
  obtain ⟨c0, c1, f0, f1⟩ := H.cells
  have HH := Lib.hid H
  clear H
  go_enter Try.func13, Try.ntmps13
  go_wp2
  all_goals
    go_ret
    exact ⟨ret_i64 rfl (by unfold takes; omega), led_set HH.out (by unfold takes; omega), (But.refl _ _).set_ 0 _⟩
theorem ref_deposit (b : Nat) (bal : Int) (rest : Nat) (n : Int) (w : World) (H : RefAt w b bal rest) (h0 : 0 ≤ bal) (h1 : bal ≤ 1099511627776) :
    Calls Try.prog 15 #[.pointer (some ⟨b, 0, none⟩), .int .i64 n] w fun e w' => e = .returned (.int .i64 (depo bal n)) ∧ RefAt w' b (bal + depo bal n) rest ∧ But b w w' := by
  obtain ⟨c0, c1, f0, f1⟩ := H.cells
  have HH := Lib.hid H
  clear H
  go_enter Try.func15, Try.ntmps15
  go_wp2
  all_goals go_ret
  all_goals first
    | exact ⟨ret_i64 rfl (by unfold depo; omega), ref_set HH.out (by unfold depo; omega), (But.refl _ _).set_ 0 _⟩
    | (have e : depo bal n = 0 := by unfold depo; omega
       rw [e, Int.add_zero]
       exact ⟨rfl, HH.out, But.refl _ _⟩)
theorem ref_take (b : Nat) (bal : Int) (rest : Nat) (n : Int) (w : World) (H : RefAt w b bal rest) (h0 : 0 ≤ bal) (h1 : bal ≤ 1099511627776) :
    Calls Try.prog 18 #[.pointer (some ⟨b, 0, none⟩), .int .i64 n] w fun e w' => e = .returned (.int .i64 (takes bal n)) ∧ RefAt w' b (bal - takes bal n) rest ∧ But b w w' := by
  obtain ⟨c0, c1, f0, f1⟩ := H.cells
  have HH := Lib.hid H
  clear H
  go_enter Try.func18, Try.ntmps18
  go_wp2
  all_goals go_ret
  all_goals first
    | exact ⟨ret_i64 rfl (by unfold takes; omega), ref_set HH.out (by unfold takes; omega), (But.refl _ _).set_ 0 _⟩
    | (have e : takes bal n = 0 := by unfold takes; omega
       rw [e, Int.sub_zero]
       exact ⟨rfl, HH.out, But.refl _ _⟩)

/-- Spend: whether, and the balance then. -/
def spends (bal n : Int) : Bool := decide (0 ≤ n) && decide (n ≤ bal)
theorem led_spend (b : Nat) (bal : Int) (rest : Nat) (n : Int) (w : World) (H : LedAt w b bal rest) (h0 : 0 ≤ bal) (h1 : bal ≤ 1099511627776) :
    Calls Try.prog 17 #[.pointer (some ⟨b, 0, none⟩), .int .i64 n] w fun e w' => e = .returned (.bool (spends bal n)) ∧ LedAt w' b (if spends bal n then bal - n else bal) rest ∧ But b w w' := by
  obtain ⟨c0, c1, f0, f1⟩ := H.cells
  have HH := Lib.hid H
  clear H
  by_cases hs : spends bal n = true
  · have hn : 0 ≤ n ∧ n ≤ bal := by simpa [spends] using hs
    rw [hs]
    clear hs
    obtain ⟨hn0, hn1⟩ := hn
    go_enter Try.func17, Try.ntmps17
    go_wp2
    go_ret
    exact ⟨rfl, led_set HH.out rfl, (But.refl _ _).set_ 0 _⟩
  · have hs' : spends bal n = false := by simpa using hs
    have hn : ¬ (0 ≤ n ∧ n ≤ bal) := by simpa [spends] using hs
    rw [hs']
    clear hs hs'
    go_enter Try.func17, Try.ntmps17
    go_wp2
    all_goals first
      | (exfalso; omega)
      | (go_ret
         exact ⟨rfl, HH.out, But.refl _ _⟩)
theorem led_drop (b : Nat) (bal : Int) (rest : Nat) (w : World) (H : LedAt w b bal rest) :
    Calls Try.prog 19 #[.pointer (some ⟨b, 0, none⟩)] w fun e w' => e = .returned (.int .i64 bal) ∧ LedAt w' b 0 0 ∧ But b w w' := by
  obtain ⟨c0, c1, f0, f1⟩ := H.cells
  have HH := Lib.hid H
  have hst := store_f
  clear H
  go_enter Try.func19, Try.ntmps19
  go_wp2
  go_ret
  exact ⟨rfl, Blk.set_ (Blk.set_ HH.out 0 _) 1 _, ((But.refl _ _).set_ 0 _).set_ 1 _⟩

/-- Earn, where the rest stays below 1. -/
theorem led_earn_low (b : Nat) (bal : Int) (rest f : Nat) (n d c : Nat) (hW : Hid (∀ w, Calls Try.prog 8 #[.float .f64 f] w fun e w' => e = .returned (.tuple #[.int .i64 n, .float .f64 d]) ∧ w = w'))
    (ha : Ieee.double.add rest d = some c) (hc : (FloatKind.f64.format.order c 4607182418800017408 == some .gt || FloatKind.f64.format.order c 4607182418800017408 == some .eq) = false)
    (w : World) (H : LedAt w b bal rest) (h0 : 0 ≤ bal) (h1 : bal ≤ 1099511627776) :
    Calls Try.prog 10 #[.pointer (some ⟨b, 0, none⟩), .float .f64 f] w fun e w' => e = .returned (.int .i64 (depo bal n)) ∧ LedAt w' b (bal + depo bal n) c ∧ But b w w' := by
  obtain ⟨c0, c1, f0, f1⟩ := H.cells
  have HH := Lib.hid H
  have hst := store_f
  have HB := Lib.hid (And.intro h0 h1)
  have hv : ∀ w : World, (binOp .add 22 (.float .f64 rest) (.float .f64 d)).run Try.prog w = .ok (.float .f64 c) w := run_fadd _ _ _ ha
  clear H ha h0 h1
  go_enter Try.func10, Try.ntmps10
  go_wp2_with (first | (go_at_call 8; refine (hW.out _).mono ?_; rintro e w1 ⟨rfl, rfl⟩) | (go_at_call 14; refine (led_deposit b bal c n _ (Blk.set_ HH.out 1 _) HB.out.1 HB.out.2).mono ?_; rintro e w2 ⟨rfl, hL, hb⟩; obtain ⟨k0, k1, l0, l1⟩ := hL.cells))
  go_ret
  exact ⟨rfl, hL, ((But.refl _ _).set_ 1 _).trans hb⟩

theorem depo_in (bal n : Int) (h0 : 0 ≤ bal) (h1 : bal ≤ 1099511627776) : 0 ≤ bal + depo bal n ∧ bal + depo bal n ≤ 1099511627776 := by
  unfold depo
  omega
theorem ref_earn_low (b : Nat) (bal : Int) (rest f : Nat) (n d c : Nat) (hW : Hid (∀ w, Calls Try.prog 9 #[.float .f64 f] w fun e w' => e = .returned (.tuple #[.int .i64 n, .float .f64 d]) ∧ w = w'))
    (ha : Ieee.double.add rest d = some c) (hc : (FloatKind.f64.format.order c 4607182418800017408 == some .gt || FloatKind.f64.format.order c 4607182418800017408 == some .eq) = false)
    (w : World) (H : RefAt w b bal rest) (h0 : 0 ≤ bal) (h1 : bal ≤ 1099511627776) :
    Calls Try.prog 16 #[.pointer (some ⟨b, 0, none⟩), .float .f64 f] w fun e w' => e = .returned (.int .i64 (depo bal n)) ∧ RefAt w' b (bal + depo bal n) c ∧ But b w w' := by
  have HS := Lib.hid H
  have HB := Lib.hid (And.intro h0 h1)
  have hst := store_f
  have hv : ∀ w : World, (binOp .add 22 (.float .f64 rest) (.float .f64 d)).run Try.prog w = .ok (.float .f64 c) w := run_fadd _ _ _ ha
  clear H ha h0 h1
  go_enter Try.func16, Try.ntmps16
  go_wp2_with (first | (go_at_call 9; refine (hW.out _).mono ?_; rintro e w1 ⟨rfl, rfl⟩) | (go_at_call 15; refine (ref_deposit b bal rest n _ HS.out HB.out.1 HB.out.2).mono ?_; rintro e w2 ⟨rfl, hL, hb⟩; obtain ⟨k0, k1, l0, l1⟩ := hL.cells))
  go_ret
  exact ⟨rfl, Blk.set_ hL 1 _, hb.trans ((But.refl _ _).set_ 1 _)⟩
end Go.Proofs.Ytcelngblkjbnfaa
