/-
  Mean, by contracts.
-/
import Derived.Test.YtajklhlgakpgiaaDFl
namespace Go.Proofs.Ytajklhlgakpgiaa
open Go.RowKit Go.Lib

theorem PR.cell1 {w : World} {S : Nat → Prop} {r : Nat} {l : List Pr2} {many : Int} (H : PR w S r l many) : w.cell? ⟨r, 1, none⟩ = some (.int .i64 many) := by
  obtain ⟨v, h1, _⟩ := H.ex
  exact h1.cell 1
def meanF (s n : Nat) : Nat := (Ieee.double.div (Ieee.intOfF s) (Ieee.intOfF n)).getD 0
theorem div_int (s n : Nat) (hs : s < 2 ^ 53) (hn : 0 < n) (hn2 : n < 2 ^ 53) : Ieee.double.div (Ieee.intOfF s) (Ieee.intOfF n) = some (meanF s n) := by
  obtain ⟨Q, hQ⟩ : ∃ Q, Q = 1074 := ⟨_, rfl⟩
  obtain ⟨u1, f1⟩ := Ieee.int_units Q s hQ hs
  obtain ⟨u2, f2⟩ := Ieee.int_units Q n hQ hn2
  obtain ⟨m, i, e1, _, _⟩ := Ieee.read_units _ f1
  obtain ⟨x, y, e2, _, u3⟩ := Ieee.read_units _ f2
  have hx : ¬ x = 0 := fun h => by
    subst h
    rw [Nat.zero_mul] at u3
    have := Nat.mul_pos hn (Nat.two_pow_pos Q)
    omega
  have : ∃ c, Ieee.double.div (Ieee.intOfF s) (Ieee.intOfF n) = some c := by
    unfold Ieee.Format.div
    rw [e1, e2]
    simp only [Ieee.Datum.quotient]
    rw [if_neg hx]
    exact ⟨_, rfl⟩
  obtain ⟨c, hc⟩ := this
  unfold meanF
  rw [hc]
  rfl
set_option maxHeartbeats 1000000 in
set_option maxRecDepth 100000 in
theorem mean_pos (S : Nat → Prop) (r : Nat) (l : List Pr2) (many s : Nat) (w : World) (H : PR w S r l many) (hK : KB l) (hs : sumFrom 0 l = s) (hs2 : s < 2 ^ 53) (hm : 0 < many) :
    Calls Try.prog 18 #[.pointer (some ⟨r, 0, none⟩)] w fun e w' => e = .returned (.float .f64 (meanF s many)) ∧ Below w.heap.size w w' := by
  have hmost := H.most
  have hdiv : ∀ w : World, (binOp .quo 23 (.float .f64 (floatOfInt .f64 (s : Int))) (.float .f64 (floatOfInt .f64 (many : Int)))).run Try.prog w = .ok (.float .f64 (meanF s many)) w := fun w => run_float_arith w .quo _ .f64 _ _ _ (by rw [int_float, int_float]; exact div_int s many hs2 hm (by omega))
  have HS := Lib.hid (And.intro H (And.intro hK hs))
  clear H hK hs
  go_enter Try.func18, Try.ntmps18
  go_upto_region 1 with fail
  refine region_all (C := Below w.heap.size w) (by kernel_rfl) (by kernel_rfl) (below_drew _) ?_
  have HC0 : Below w.heap.size w w := Below.refl _ _
  open BigFrame in
  repeat (first | go_big_quiet_skip | (go_big_quiet_want; first | (apply quiet_one (hC := HC0); exact rfl; exact Nat.le_of_ble_eq_true rfl; (focus (intro w' hw'; have c1 := (HS.out.1.below hw').cell1; go_big_quiet_op; with_reducible exact rfl)); go_big_quiet_on) | (go_big_quiet_op; apply Exists.intro; refine ⟨fun w' hw' => ?_, ?_⟩; (focus (have c1 := (HS.out.1.below hw').cell1; first | ((have X := sum_c S r l many _ (HS.out.1.below hw') HS.out.2.1; rw [HS.out.2.2] at X; with_reducible exact quiet_call hw' X)))); go_big_quiet_on)))
  refine wpQuiet_nil ?_
  intro w2 hb2
  go_wp2_with fail
  go_ret
  exact ⟨rfl, hb2⟩
theorem nan_bits (t : Nat) : FloatKind.f64.format.order ((t % 2) * 2 ^ 63 + 0x7ff0000000000000 + 1 + (t / 2) % (2 ^ 52 - 1)) ((t % 2) * 2 ^ 63 + 0x7ff0000000000000 + 1 + (t / 2) % (2 ^ 52 - 1)) = none ∧
    ∀ y, FloatKind.f64.format.order ((t % 2) * 2 ^ 63 + 0x7ff0000000000000 + 1 + (t / 2) % (2 ^ 52 - 1)) y = none := by
  have h : (Ieee.double.read ((t % 2) * 2 ^ 63 + 0x7ff0000000000000 + 1 + (t / 2) % (2 ^ 52 - 1))).isNaN = true := by
    have e2 : Ieee.double.binade = 2 ^ 52 := rfl
    have e3 : Ieee.double.infRung = 2047 * 2 ^ 52 := by decide
    have e4 : Ieee.double.signWeight = 2 ^ 63 := rfl
    obtain ⟨c, hc⟩ : ∃ c, c = (t % 2) * 2 ^ 63 + 0x7ff0000000000000 + 1 + (t / 2) % (2 ^ 52 - 1) := ⟨_, rfl⟩
    rw [← hc]
    unfold Ieee.Format.read
    rw [e2, e3, e4]
    simp only
    have h1 : c % 2 ^ 63 = 0x7ff0000000000000 + 1 + (t / 2) % (2 ^ 52 - 1) := by omega
    rw [h1, if_neg (by omega), if_neg (by omega), if_neg (by omega)]
    rfl
  exact ⟨Ieee.order_nan _ _ h, fun y => Ieee.order_nan _ y h⟩
theorem div_zero (w : World) (t : TypeId) : ∃ c, (binOp .quo t (.float .f64 (floatOfInt .f64 0)) (.float .f64 (floatOfInt .f64 0))).run Try.prog w = .ok (.float .f64 c) w.drew ∧ ∀ y, FloatKind.f64.format.order c y = none := by
  have h0 : floatOfInt .f64 0 = 0 := by decide
  have h1 : FloatKind.f64.format.div 0 0 = none := by decide
  rw [h0]
  have h2 : (binOp .quo t (.float .f64 0) (.float .f64 0)).run Try.prog w = .ok (.float .f64 ((Question.nanBits .f64 0 0).cut (w.tape w.drawn (.nanBits .f64 0 0)))) w.drew := by
    simp only [binOp, Op.floatArith, h1]
    rfl
  refine ⟨_, h2, fun y => ?_⟩
  generalize w.tape w.drawn (.nanBits .f64 0 0) = n
  exact (nan_bits n).2 y
set_option maxHeartbeats 1000000 in
set_option maxRecDepth 100000 in
theorem mean_zero (S : Nat → Prop) (r : Nat) (w : World) (H : PR w S r [] 0) :
    Calls Try.prog 18 #[.pointer (some ⟨r, 0, none⟩)] w fun e w' => ∃ c, e = .returned (.float .f64 c) ∧ (∀ y, FloatKind.f64.format.order c y = none) ∧ Below w.heap.size w w' := by
  have HS := Lib.hid H
  clear H
  go_enter Try.func18, Try.ntmps18
  go_upto_region 1 with fail
  refine region_tail (C := Below w.heap.size w) 8 (by kernel_rfl) (by kernel_rfl) (below_drew _) ?_
  simp only [List.take_succ_cons, List.take_zero, List.drop_succ_cons, List.drop_zero]
  have HC0 : Below w.heap.size w w := Below.refl _ _
  open BigFrame in
  repeat (first | go_big_quiet_skip | (go_big_quiet_want; first | (apply quiet_one (hC := HC0); exact rfl; exact Nat.le_of_ble_eq_true rfl; (focus (intro w' hw'; have c1 := (HS.out.below hw').cell1; go_big_quiet_op; with_reducible exact rfl)); go_big_quiet_on) | (go_big_quiet_op; apply Exists.intro; refine ⟨fun w' hw' => ?_, ?_⟩; (focus (have c1 := (HS.out.below hw').cell1; first | ((have X := sum_c S r [] 0 _ (HS.out.below hw') (fun x hx => by cases hx); rw [show sumFrom 0 [] = 0 from rfl] at X; with_reducible exact quiet_call hw' X)))); go_big_quiet_on)))
  refine wpQuiet_nil ?_
  intro w2 hb2
  obtain ⟨c, hc, hn⟩ := div_zero w2 23
  have HN := Lib.hid (And.intro hn hb2)
  clear hn hb2
  go_wp2_with fail
  go_ret
  exact ⟨c, rfl, HN.out.1, HN.out.2.drew⟩
end Go.Proofs.Ytajklhlgakpgiaa
