/-
  amblerlaw27.OrderSorts answers true: the walk, by cases. (Printed by mksorts.py.)
-/
import Derived.Test.YtnakfnkmdiekhaaDoorOrdN
namespace Go.Proofs.YtnakfnkmdiekhaaDoor
open Go.RowKit Ieee

set_option maxHeartbeats 1000000 in
set_option maxRecDepth 100000 in
theorem sorts_ab (a b f n x y : Nat) (w : World)
    (K1 : Hid (∀ w, Calls Tryd.prog 13 #[.float .f64 a] w fun e w' => e = .returned (.int .u64 (x : Nat)) ∧ w = w'))
    (K2 : Hid (∀ w, Calls Tryd.prog 13 #[.float .f64 b] w fun e w' => e = .returned (.int .u64 (y : Nat)) ∧ w = w'))
    (L1 : Hid (∀ w, Calls Tryd.prog 17 #[.float .f64 a, .float .f64 b] w fun e w' => e = .returned (.bool true) ∧ w = w'))
    (L2 : Hid (∀ w, Calls Tryd.prog 17 #[.float .f64 b, .float .f64 a] w fun e w' => e = .returned (.bool false) ∧ w = w'))
    (S1 : Hid (∀ w, Calls Tryd.prog 18 #[.float .f64 a, .float .f64 b] w fun e w' => e = .returned (.bool false) ∧ w = w'))
    (FL : Hid (∀ w, Calls Tryd.prog 20 #[.int .u64 (x : Nat)] w fun e w' => e = .returned (.tuple #[.float .f64 f, .nilIface]) ∧ w = w'))
    (S2 : Hid (∀ w, Calls Tryd.prog 18 #[.float .f64 f, .float .f64 a] w fun e w' => e = .returned (.bool true) ∧ w = w'))
    (hxy : (x : Int) < (y : Int))
    (n1 : decide (y < x) = false)
    (n2 : ((x : Int) == (y : Int)) = false)
    (na : (FloatKind.f64.format.order a a != some .eq) = false)
    (nb : (FloatKind.f64.format.order b b != some .eq) = true)
    (NX : Hid (∀ w, Calls Tryd.prog 19 #[.float .f64 a] w fun e w' => e = .returned (.tuple #[.float .f64 n, .nilIface]) ∧ w = w'))
    (L3 : Hid (∀ w, Calls Tryd.prog 17 #[.float .f64 a, .float .f64 n] w fun e w' => e = .returned (.bool true) ∧ w = w'))
    (L4 : Hid (∀ w, Calls Tryd.prog 17 #[.float .f64 b, .float .f64 n] w fun e w' => e = .returned (.bool false) ∧ w = w')) :
    Calls Tryd.prog 6 #[.float .f64 a, .float .f64 b] w fun e w' => e = .returned (.bool true) ∧ w = w' := by
  have HA := Lib.hid alive_yes
  go_enter Tryd.func6, Tryd.ntmps6
  go_wp2_with (first | (go_at_call 7; (with_reducible refine (HA.out _).mono ?_); rintro e w1 ⟨rfl, rfl⟩) | (go_at_call 13; (with_reducible refine (K1.out _).mono ?_); rintro e w1 ⟨rfl, rfl⟩) | (go_at_call 13; (with_reducible refine (K2.out _).mono ?_); rintro e w1 ⟨rfl, rfl⟩) | (go_at_call 17; (with_reducible refine (L1.out _).mono ?_); rintro e w1 ⟨rfl, rfl⟩) | (go_at_call 17; (with_reducible refine (L2.out _).mono ?_); rintro e w1 ⟨rfl, rfl⟩) | (go_at_call 18; (with_reducible refine (S1.out _).mono ?_); rintro e w1 ⟨rfl, rfl⟩) | (go_at_call 20; (with_reducible refine (FL.out _).mono ?_); rintro e w1 ⟨rfl, rfl⟩) | (go_at_call 18; (with_reducible refine (S2.out _).mono ?_); rintro e w1 ⟨rfl, rfl⟩) | (go_at_call 19; (with_reducible refine (NX.out _).mono ?_); rintro e w1 ⟨rfl, rfl⟩) | (go_at_call 17; (with_reducible refine (L3.out _).mono ?_); rintro e w1 ⟨rfl, rfl⟩) | (go_at_call 17; (with_reducible refine (L4.out _).mono ?_); rintro e w1 ⟨rfl, rfl⟩))
  go_ret
  exact ⟨rfl, rfl⟩

set_option maxHeartbeats 1000000 in
set_option maxRecDepth 100000 in
theorem sorts_lt (a b f n x y : Nat) (w : World)
    (K1 : Hid (∀ w, Calls Tryd.prog 13 #[.float .f64 a] w fun e w' => e = .returned (.int .u64 (x : Nat)) ∧ w = w'))
    (K2 : Hid (∀ w, Calls Tryd.prog 13 #[.float .f64 b] w fun e w' => e = .returned (.int .u64 (y : Nat)) ∧ w = w'))
    (L1 : Hid (∀ w, Calls Tryd.prog 17 #[.float .f64 a, .float .f64 b] w fun e w' => e = .returned (.bool true) ∧ w = w'))
    (L2 : Hid (∀ w, Calls Tryd.prog 17 #[.float .f64 b, .float .f64 a] w fun e w' => e = .returned (.bool false) ∧ w = w'))
    (S1 : Hid (∀ w, Calls Tryd.prog 18 #[.float .f64 a, .float .f64 b] w fun e w' => e = .returned (.bool false) ∧ w = w'))
    (FL : Hid (∀ w, Calls Tryd.prog 20 #[.int .u64 (x : Nat)] w fun e w' => e = .returned (.tuple #[.float .f64 f, .nilIface]) ∧ w = w'))
    (S2 : Hid (∀ w, Calls Tryd.prog 18 #[.float .f64 f, .float .f64 a] w fun e w' => e = .returned (.bool true) ∧ w = w'))
    (hxy : (x : Int) < (y : Int))
    (n1 : decide (y < x) = false)
    (n2 : ((x : Int) == (y : Int)) = false)
    (na : (FloatKind.f64.format.order a a != some .eq) = false)
    (nb : (FloatKind.f64.format.order b b != some .eq) = false)
    (o1 : (FloatKind.f64.format.order a b == some .lt) = true)
    (o2 : (FloatKind.f64.format.order a b == some .eq) = false)
    (NX : Hid (∀ w, Calls Tryd.prog 19 #[.float .f64 a] w fun e w' => e = .returned (.tuple #[.float .f64 n, .nilIface]) ∧ w = w'))
    (L3 : Hid (∀ w, Calls Tryd.prog 17 #[.float .f64 a, .float .f64 n] w fun e w' => e = .returned (.bool true) ∧ w = w'))
    (L4 : Hid (∀ w, Calls Tryd.prog 17 #[.float .f64 b, .float .f64 n] w fun e w' => e = .returned (.bool false) ∧ w = w')) :
    Calls Tryd.prog 6 #[.float .f64 a, .float .f64 b] w fun e w' => e = .returned (.bool true) ∧ w = w' := by
  have HA := Lib.hid alive_yes
  go_enter Tryd.func6, Tryd.ntmps6
  go_wp2_with (first | (go_at_call 7; (with_reducible refine (HA.out _).mono ?_); rintro e w1 ⟨rfl, rfl⟩) | (go_at_call 13; (with_reducible refine (K1.out _).mono ?_); rintro e w1 ⟨rfl, rfl⟩) | (go_at_call 13; (with_reducible refine (K2.out _).mono ?_); rintro e w1 ⟨rfl, rfl⟩) | (go_at_call 17; (with_reducible refine (L1.out _).mono ?_); rintro e w1 ⟨rfl, rfl⟩) | (go_at_call 17; (with_reducible refine (L2.out _).mono ?_); rintro e w1 ⟨rfl, rfl⟩) | (go_at_call 18; (with_reducible refine (S1.out _).mono ?_); rintro e w1 ⟨rfl, rfl⟩) | (go_at_call 20; (with_reducible refine (FL.out _).mono ?_); rintro e w1 ⟨rfl, rfl⟩) | (go_at_call 18; (with_reducible refine (S2.out _).mono ?_); rintro e w1 ⟨rfl, rfl⟩) | (go_at_call 19; (with_reducible refine (NX.out _).mono ?_); rintro e w1 ⟨rfl, rfl⟩) | (go_at_call 17; (with_reducible refine (L3.out _).mono ?_); rintro e w1 ⟨rfl, rfl⟩) | (go_at_call 17; (with_reducible refine (L4.out _).mono ?_); rintro e w1 ⟨rfl, rfl⟩))
  go_ret
  exact ⟨rfl, rfl⟩

set_option maxHeartbeats 1000000 in
set_option maxRecDepth 100000 in
theorem sorts_gt (a b f n x y : Nat) (w : World)
    (K1 : Hid (∀ w, Calls Tryd.prog 13 #[.float .f64 a] w fun e w' => e = .returned (.int .u64 (x : Nat)) ∧ w = w'))
    (K2 : Hid (∀ w, Calls Tryd.prog 13 #[.float .f64 b] w fun e w' => e = .returned (.int .u64 (y : Nat)) ∧ w = w'))
    (L1 : Hid (∀ w, Calls Tryd.prog 17 #[.float .f64 a, .float .f64 b] w fun e w' => e = .returned (.bool false) ∧ w = w'))
    (L2 : Hid (∀ w, Calls Tryd.prog 17 #[.float .f64 b, .float .f64 a] w fun e w' => e = .returned (.bool true) ∧ w = w'))
    (S1 : Hid (∀ w, Calls Tryd.prog 18 #[.float .f64 a, .float .f64 b] w fun e w' => e = .returned (.bool false) ∧ w = w'))
    (FL : Hid (∀ w, Calls Tryd.prog 20 #[.int .u64 (x : Nat)] w fun e w' => e = .returned (.tuple #[.float .f64 f, .nilIface]) ∧ w = w'))
    (S2 : Hid (∀ w, Calls Tryd.prog 18 #[.float .f64 f, .float .f64 a] w fun e w' => e = .returned (.bool true) ∧ w = w'))
    (hxy : (y : Int) < (x : Int))
    (n1 : decide (x < y) = false)
    (n2 : ((x : Int) == (y : Int)) = false)
    (na : (FloatKind.f64.format.order a a != some .eq) = false)
    (nb : (FloatKind.f64.format.order b b != some .eq) = false)
    (o1 : (FloatKind.f64.format.order a b == some .lt) = false)
    (o2 : (FloatKind.f64.format.order a b == some .eq) = false)
    (NX : Hid (∀ w, Calls Tryd.prog 19 #[.float .f64 a] w fun e w' => e = .returned (.tuple #[.float .f64 n, .nilIface]) ∧ w = w'))
    (L3 : Hid (∀ w, Calls Tryd.prog 17 #[.float .f64 a, .float .f64 n] w fun e w' => e = .returned (.bool true) ∧ w = w')) :
    Calls Tryd.prog 6 #[.float .f64 a, .float .f64 b] w fun e w' => e = .returned (.bool true) ∧ w = w' := by
  have HA := Lib.hid alive_yes
  go_enter Tryd.func6, Tryd.ntmps6
  go_wp2_with (first | (go_at_call 7; (with_reducible refine (HA.out _).mono ?_); rintro e w1 ⟨rfl, rfl⟩) | (go_at_call 13; (with_reducible refine (K1.out _).mono ?_); rintro e w1 ⟨rfl, rfl⟩) | (go_at_call 13; (with_reducible refine (K2.out _).mono ?_); rintro e w1 ⟨rfl, rfl⟩) | (go_at_call 17; (with_reducible refine (L1.out _).mono ?_); rintro e w1 ⟨rfl, rfl⟩) | (go_at_call 17; (with_reducible refine (L2.out _).mono ?_); rintro e w1 ⟨rfl, rfl⟩) | (go_at_call 18; (with_reducible refine (S1.out _).mono ?_); rintro e w1 ⟨rfl, rfl⟩) | (go_at_call 20; (with_reducible refine (FL.out _).mono ?_); rintro e w1 ⟨rfl, rfl⟩) | (go_at_call 18; (with_reducible refine (S2.out _).mono ?_); rintro e w1 ⟨rfl, rfl⟩) | (go_at_call 19; (with_reducible refine (NX.out _).mono ?_); rintro e w1 ⟨rfl, rfl⟩) | (go_at_call 17; (with_reducible refine (L3.out _).mono ?_); rintro e w1 ⟨rfl, rfl⟩))
  go_ret
  exact ⟨rfl, rfl⟩

set_option maxHeartbeats 1000000 in
set_option maxRecDepth 100000 in
theorem sorts_eq (a b f n x : Nat) (w : World)
    (K1 : Hid (∀ w, Calls Tryd.prog 13 #[.float .f64 a] w fun e w' => e = .returned (.int .u64 (x : Nat)) ∧ w = w'))
    (K2 : Hid (∀ w, Calls Tryd.prog 13 #[.float .f64 b] w fun e w' => e = .returned (.int .u64 (x : Nat)) ∧ w = w'))
    (L1 : Hid (∀ w, Calls Tryd.prog 17 #[.float .f64 a, .float .f64 b] w fun e w' => e = .returned (.bool false) ∧ w = w'))
    (L2 : Hid (∀ w, Calls Tryd.prog 17 #[.float .f64 b, .float .f64 a] w fun e w' => e = .returned (.bool false) ∧ w = w'))
    (S1 : Hid (∀ w, Calls Tryd.prog 18 #[.float .f64 a, .float .f64 b] w fun e w' => e = .returned (.bool true) ∧ w = w'))
    (FL : Hid (∀ w, Calls Tryd.prog 20 #[.int .u64 (x : Nat)] w fun e w' => e = .returned (.tuple #[.float .f64 f, .nilIface]) ∧ w = w'))
    (S2 : Hid (∀ w, Calls Tryd.prog 18 #[.float .f64 f, .float .f64 a] w fun e w' => e = .returned (.bool true) ∧ w = w'))
    (na : (FloatKind.f64.format.order a a != some .eq) = false)
    (nb : (FloatKind.f64.format.order b b != some .eq) = false)
    (o1 : (FloatKind.f64.format.order a b == some .lt) = false)
    (o2 : (FloatKind.f64.format.order a b == some .eq) = true)
    (NX : Hid (∀ w, Calls Tryd.prog 19 #[.float .f64 a] w fun e w' => e = .returned (.tuple #[.float .f64 n, .nilIface]) ∧ w = w'))
    (L3 : Hid (∀ w, Calls Tryd.prog 17 #[.float .f64 a, .float .f64 n] w fun e w' => e = .returned (.bool true) ∧ w = w')) :
    Calls Tryd.prog 6 #[.float .f64 a, .float .f64 b] w fun e w' => e = .returned (.bool true) ∧ w = w' := by
  have HA := Lib.hid alive_yes
  go_enter Tryd.func6, Tryd.ntmps6
  go_wp2_with (first | (go_at_call 7; (with_reducible refine (HA.out _).mono ?_); rintro e w1 ⟨rfl, rfl⟩) | (go_at_call 13; (with_reducible refine (K1.out _).mono ?_); rintro e w1 ⟨rfl, rfl⟩) | (go_at_call 13; (with_reducible refine (K2.out _).mono ?_); rintro e w1 ⟨rfl, rfl⟩) | (go_at_call 17; (with_reducible refine (L1.out _).mono ?_); rintro e w1 ⟨rfl, rfl⟩) | (go_at_call 17; (with_reducible refine (L2.out _).mono ?_); rintro e w1 ⟨rfl, rfl⟩) | (go_at_call 18; (with_reducible refine (S1.out _).mono ?_); rintro e w1 ⟨rfl, rfl⟩) | (go_at_call 20; (with_reducible refine (FL.out _).mono ?_); rintro e w1 ⟨rfl, rfl⟩) | (go_at_call 18; (with_reducible refine (S2.out _).mono ?_); rintro e w1 ⟨rfl, rfl⟩) | (go_at_call 19; (with_reducible refine (NX.out _).mono ?_); rintro e w1 ⟨rfl, rfl⟩) | (go_at_call 17; (with_reducible refine (L3.out _).mono ?_); rintro e w1 ⟨rfl, rfl⟩))
  go_ret
  exact ⟨rfl, rfl⟩

set_option maxHeartbeats 1000000 in
set_option maxRecDepth 100000 in
theorem sorts_nn (a b f x : Nat) (ea : Nat → Addr) (w : World)
    (K1 : Hid (∀ w, Calls Tryd.prog 13 #[.float .f64 a] w fun e w' => e = .returned (.int .u64 (x : Nat)) ∧ w = w'))
    (K2 : Hid (∀ w, Calls Tryd.prog 13 #[.float .f64 b] w fun e w' => e = .returned (.int .u64 (x : Nat)) ∧ w = w'))
    (L1 : Hid (∀ w, Calls Tryd.prog 17 #[.float .f64 a, .float .f64 b] w fun e w' => e = .returned (.bool false) ∧ w = w'))
    (L2 : Hid (∀ w, Calls Tryd.prog 17 #[.float .f64 b, .float .f64 a] w fun e w' => e = .returned (.bool false) ∧ w = w'))
    (S1 : Hid (∀ w, Calls Tryd.prog 18 #[.float .f64 a, .float .f64 b] w fun e w' => e = .returned (.bool true) ∧ w = w'))
    (FL : Hid (∀ w, Calls Tryd.prog 20 #[.int .u64 (x : Nat)] w fun e w' => e = .returned (.tuple #[.float .f64 f, .nilIface]) ∧ w = w'))
    (S2 : Hid (∀ w, Calls Tryd.prog 18 #[.float .f64 f, .float .f64 a] w fun e w' => e = .returned (.bool true) ∧ w = w'))
    (na : (FloatKind.f64.format.order a a != some .eq) = true)
    (nb : (FloatKind.f64.format.order b b != some .eq) = true)
    (HE : Hid (ErrsAt w ea))
    (NX : Hid (∀ W, ErrAt W 1 (ea 3) → Calls Tryd.prog 19 #[.float .f64 a] W fun e w' => e = .returned (.tuple #[.float .f64 0, .iface 104 (.pointer (some (ea 3)))]) ∧ Below W.heap.size W w'))
    (NM : Hid (∀ W, ErrsAt W ea → Calls Tryd.prog 22 #[.iface 104 (.pointer (some (ea 3)))] W fun e w' => e = .returned (.int .i64 4) ∧ Below W.heap.size W w')) :
    Calls Tryd.prog 6 #[.float .f64 a, .float .f64 b] w fun e w' => e = .returned (.bool true) ∧ Below w.heap.size w w' := by
  have HA := Lib.hid alive_yes
  have zz : (FloatKind.f64.format.order 0 0 == some .eq) = true := by kernel_rfl
  go_enter Tryd.func6, Tryd.ntmps6
  go_upto_region 18 with (first | (go_at_call 7; (with_reducible refine (HA.out _).mono ?_); rintro e w1 ⟨rfl, rfl⟩) | (go_at_call 13; (with_reducible refine (K1.out _).mono ?_); rintro e w1 ⟨rfl, rfl⟩) | (go_at_call 13; (with_reducible refine (K2.out _).mono ?_); rintro e w1 ⟨rfl, rfl⟩) | (go_at_call 17; (with_reducible refine (L1.out _).mono ?_); rintro e w1 ⟨rfl, rfl⟩) | (go_at_call 17; (with_reducible refine (L2.out _).mono ?_); rintro e w1 ⟨rfl, rfl⟩) | (go_at_call 18; (with_reducible refine (S1.out _).mono ?_); rintro e w1 ⟨rfl, rfl⟩) | (go_at_call 20; (with_reducible refine (FL.out _).mono ?_); rintro e w1 ⟨rfl, rfl⟩) | (go_at_call 18; (with_reducible refine (S2.out _).mono ?_); rintro e w1 ⟨rfl, rfl⟩))
  go_upto_region 19 with (go_at_call 19; refine (NX.out _ (HE.out.one 3 (by decide))).mono ?_; rintro e w1 ⟨rfl, hb1⟩)
  have HB := Lib.hid (And.intro hb1 (HE.out.same hb1))
  clear hb1
  go_wp2_with (go_at_call 22; refine (NM.out _ HB.out.2).mono ?_; rintro e w3 ⟨rfl, hb3⟩)
  go_ret
  exact ⟨rfl, HB.out.1.trans (hb3.mono HB.out.1.size)⟩

set_option maxHeartbeats 1000000 in
set_option maxRecDepth 100000 in
theorem sorts_na (a b f x y : Nat) (ea : Nat → Addr) (w : World)
    (K1 : Hid (∀ w, Calls Tryd.prog 13 #[.float .f64 a] w fun e w' => e = .returned (.int .u64 (x : Nat)) ∧ w = w'))
    (K2 : Hid (∀ w, Calls Tryd.prog 13 #[.float .f64 b] w fun e w' => e = .returned (.int .u64 (y : Nat)) ∧ w = w'))
    (L1 : Hid (∀ w, Calls Tryd.prog 17 #[.float .f64 a, .float .f64 b] w fun e w' => e = .returned (.bool false) ∧ w = w'))
    (L2 : Hid (∀ w, Calls Tryd.prog 17 #[.float .f64 b, .float .f64 a] w fun e w' => e = .returned (.bool true) ∧ w = w'))
    (S1 : Hid (∀ w, Calls Tryd.prog 18 #[.float .f64 a, .float .f64 b] w fun e w' => e = .returned (.bool false) ∧ w = w'))
    (FL : Hid (∀ w, Calls Tryd.prog 20 #[.int .u64 (x : Nat)] w fun e w' => e = .returned (.tuple #[.float .f64 f, .nilIface]) ∧ w = w'))
    (S2 : Hid (∀ w, Calls Tryd.prog 18 #[.float .f64 f, .float .f64 a] w fun e w' => e = .returned (.bool true) ∧ w = w'))
    (hxy : (y : Int) < (x : Int))
    (n1 : decide (x < y) = false)
    (n2 : ((x : Int) == (y : Int)) = false)
    (na : (FloatKind.f64.format.order a a != some .eq) = true)
    (nb : (FloatKind.f64.format.order b b != some .eq) = false)
    (HE : Hid (ErrsAt w ea))
    (NX : Hid (∀ W, ErrAt W 1 (ea 3) → Calls Tryd.prog 19 #[.float .f64 a] W fun e w' => e = .returned (.tuple #[.float .f64 0, .iface 104 (.pointer (some (ea 3)))]) ∧ Below W.heap.size W w'))
    (NM : Hid (∀ W, ErrsAt W ea → Calls Tryd.prog 22 #[.iface 104 (.pointer (some (ea 3)))] W fun e w' => e = .returned (.int .i64 4) ∧ Below W.heap.size W w')) :
    Calls Tryd.prog 6 #[.float .f64 a, .float .f64 b] w fun e w' => e = .returned (.bool true) ∧ Below w.heap.size w w' := by
  have HA := Lib.hid alive_yes
  have zz : (FloatKind.f64.format.order 0 0 == some .eq) = true := by kernel_rfl
  go_enter Tryd.func6, Tryd.ntmps6
  go_upto_region 18 with (first | (go_at_call 7; (with_reducible refine (HA.out _).mono ?_); rintro e w1 ⟨rfl, rfl⟩) | (go_at_call 13; (with_reducible refine (K1.out _).mono ?_); rintro e w1 ⟨rfl, rfl⟩) | (go_at_call 13; (with_reducible refine (K2.out _).mono ?_); rintro e w1 ⟨rfl, rfl⟩) | (go_at_call 17; (with_reducible refine (L1.out _).mono ?_); rintro e w1 ⟨rfl, rfl⟩) | (go_at_call 17; (with_reducible refine (L2.out _).mono ?_); rintro e w1 ⟨rfl, rfl⟩) | (go_at_call 18; (with_reducible refine (S1.out _).mono ?_); rintro e w1 ⟨rfl, rfl⟩) | (go_at_call 20; (with_reducible refine (FL.out _).mono ?_); rintro e w1 ⟨rfl, rfl⟩) | (go_at_call 18; (with_reducible refine (S2.out _).mono ?_); rintro e w1 ⟨rfl, rfl⟩))
  go_upto_region 19 with (go_at_call 19; refine (NX.out _ (HE.out.one 3 (by decide))).mono ?_; rintro e w1 ⟨rfl, hb1⟩)
  have HB := Lib.hid (And.intro hb1 (HE.out.same hb1))
  clear hb1
  go_wp2_with (go_at_call 22; refine (NM.out _ HB.out.2).mono ?_; rintro e w3 ⟨rfl, hb3⟩)
  go_ret
  exact ⟨rfl, HB.out.1.trans (hb3.mono HB.out.1.size)⟩

theorem num_none (ea : Nat → Addr) (w : World) (hE : ErrsAt w ea) :
    Calls Tryd.prog 22 #[.iface 104 (.pointer (some (ea 3)))] w fun e w' => e = .returned (.int .i64 4) ∧ Below w.heap.size w w' := by
  have := num_err ea 3 (by decide) w hE
  simpa using this
/-- Less, where the keys tell. -/
theorem less_v (a b : Nat) (v : Bool) (ha : a < 18446744073709551616) (hb : b < 18446744073709551616) (h : decide (keyW a < keyW b) = v) : Hid (∀ w, Calls Tryd.prog 17 #[.float .f64 a, .float .f64 b] w fun e w' => e = .returned (.bool v) ∧ w = w') :=
  Lib.hid (h ▸ less_c a b ha hb)
theorem same_v (a b : Nat) (v : Bool) (ha : a < 18446744073709551616) (hb : b < 18446744073709551616) (h : decide (form a = form b) = v) : Hid (∀ w, Calls Tryd.prog 18 #[.float .f64 a, .float .f64 b] w fun e w' => e = .returned (.bool v) ∧ w = w') :=
  Lib.hid (h ▸ same_c a b ha hb)
/-- Next of a number: which, and that it lies directly behind. -/
theorem next_of (a b : Nat) (ha : a < 18446744073709551616) (hb : b < 18446744073709551616) (hn : nanW a = false) : ∃ n : Nat, n < 18446744073709551616 ∧ keyW a < keyW n ∧ ¬ (keyW a < keyW b ∧ keyW b < keyW n) ∧
    (∀ w, Calls Tryd.prog 19 #[.float .f64 a] w fun e w' => e = .returned (.tuple #[.float .f64 n, .nilIface]) ∧ w = w') := by
  by_cases hi : a = 9218868437227405312
  · subst hi
    obtain ⟨h1, h2⟩ := next_inf b hb 9218868437227405312 (by decide)
    have hk : keyW 9221120237041090560 = 18444492273895866368 := by decide
    exact ⟨9221120237041090560, by decide, by rw [hk]; exact h1, by rw [hk]; exact h2, fun w => next_top w⟩
  · have hf : form a ≠ 9218868437227405312 := by
      rw [form_sg a hn]
      split <;> omega
    obtain ⟨h1, h2⟩ := next_key a b ha hb hn hf
    exact ⟨form (nextW a), form_lt _ (next_lt a ha hn), by rw [key_form]; exact h1, by rw [key_form]; exact h2, fun w => next_num a ha hn hi w⟩

theorem sorts_walk (a b : Nat) (w : World) (ea : Nat → Addr) (hE : ErrsAt w ea) (ha' : a < 2 ^ 64) (hb' : b < 2 ^ 64) :
    Calls Tryd.prog 6 #[.float .f64 a, .float .f64 b] w fun e w' => e = .returned (.bool true) ∧ Below w.heap.size w w' := by
  have ha : a < 18446744073709551616 := ha'
  have hb : b < 18446744073709551616 := hb'
  have K1 := Lib.hid (key_c a ha)
  have K2 := Lib.hid (key_c b hb)
  have hfl := form_lt a ha
  have hback : keyW (unkey (keyW a)) = keyW a := by rw [unkey_key a ha, key_form]
  have FL := float_ok (keyW a) (key_lt a ha) hback
  rw [unkey_key a ha] at FL
  have S2 := same_v (form a) a true hfl ha (by rw [form_form]; simp)
  have na := nn_of a ha
  have nb := nn_of b hb
  have sk := same_key a b ha hb
  by_cases hna : nanW a = true
  · rw [hna] at na
    have ka := key_nan a hna
    have NX := Lib.hid (fun W hE => next_nan a ha hna (ea 3) W hE)
    have NM := Lib.hid (fun W hE => num_none ea W hE)
    by_cases hnb : nanW b = true
    · rw [hnb] at nb
      have kb := key_nan b hnb
      exact sorts_nn a b (form a) (keyW a) ea w K1 ((show keyW b = keyW a by omega) ▸ K2) (less_v a b false ha hb (by simp; omega)) (less_v b a false hb ha (by simp; omega)) (same_v a b true ha hb (by simp; rw [sk]; omega)) (Lib.hid FL) S2 na nb (Lib.hid hE) NX NM
    · have hnb' : nanW b = false := by simpa using hnb
      rw [hnb'] at nb
      have kb := key_num b hb hnb'
      exact sorts_na a b (form a) (keyW a) (keyW b) ea w K1 K2 (less_v a b false ha hb (by simp; omega)) (less_v b a true hb ha (by simp; omega)) (same_v a b false ha hb (by simp; rw [sk]; omega)) (Lib.hid FL) S2 (by omega) (by simp; omega) (by simp; omega) na nb (Lib.hid hE) NX NM
  · have hna' : nanW a = false := by simpa using hna
    rw [hna'] at na
    have ka := key_num a ha hna'
    obtain ⟨n, hn, hk1, hk2, NX⟩ := next_of a b ha hb hna'
    have L3 := less_v a n true ha hn (by simp; omega)
    by_cases hnb : nanW b = true
    · rw [hnb] at nb
      have kb := key_nan b hnb
      refine (sorts_ab a b (form a) n (keyW a) (keyW b) w K1 K2 (less_v a b true ha hb (by simp; omega)) (less_v b a false hb ha (by simp; omega)) (same_v a b false ha hb (by simp; rw [sk]; omega)) (Lib.hid FL) S2 (by omega) (by simp; omega) (by simp; omega) na nb (Lib.hid NX) L3 (less_v b n false hb hn (by simp; omega))).mono ?_
      rintro e w' ⟨h1, rfl⟩
      exact ⟨h1, Below.refl _ _⟩
    · have hnb' : nanW b = false := by simpa using hnb
      rw [hnb'] at nb
      have lt_sg := key_sg a b ha hb hna' hnb'
      have eq_sg := form_eq_sg a b ha hb hna' hnb'
      have o := ord_of a b ha hb hna' hnb'
      have o1 : (FloatKind.f64.format.order a b == some .lt) = decide (keyW a < keyW b) := by rw [o, cmp_lt, decide_eq_decide]; exact lt_sg.symm
      have o2 : (FloatKind.f64.format.order a b == some .eq) = decide (keyW a = keyW b) := by rw [o, cmp_eq, decide_eq_decide, ← sk]; exact eq_sg.symm
      rcases Nat.lt_trichotomy (keyW a) (keyW b) with h | h | h
      · refine (sorts_lt a b (form a) n (keyW a) (keyW b) w K1 K2 (less_v a b true ha hb (by simp; omega)) (less_v b a false hb ha (by simp; omega)) (same_v a b false ha hb (by simp; rw [sk]; omega)) (Lib.hid FL) S2 (by omega) (by simp; omega) (by simp; omega) na nb (by rw [o1]; simp; omega) (by rw [o2]; simp; omega) (Lib.hid NX) L3 (less_v b n false hb hn (by simp; omega))).mono ?_
        rintro e w' ⟨h1, rfl⟩
        exact ⟨h1, Below.refl _ _⟩
      · refine (sorts_eq a b (form a) n (keyW a) w K1 ((show keyW b = keyW a by omega) ▸ K2) (less_v a b false ha hb (by simp; omega)) (less_v b a false hb ha (by simp; omega)) (same_v a b true ha hb (by simp; rw [sk]; omega)) (Lib.hid FL) S2 na nb (by rw [o1]; simp; omega) (by rw [o2]; simp; omega) (Lib.hid NX) L3).mono ?_
        rintro e w' ⟨h1, rfl⟩
        exact ⟨h1, Below.refl _ _⟩
      · refine (sorts_gt a b (form a) n (keyW a) (keyW b) w K1 K2 (less_v a b false ha hb (by simp; omega)) (less_v b a true hb ha (by simp; omega)) (same_v a b false ha hb (by simp; rw [sk]; omega)) (Lib.hid FL) S2 (by omega) (by simp; omega) (by simp; omega) na nb (by rw [o1]; simp; omega) (by rw [o2]; simp; omega) (Lib.hid NX) L3).mono ?_
        rintro e w' ⟨h1, rfl⟩
        exact ⟨h1, Below.refl _ _⟩
end Go.Proofs.YtnakfnkmdiekhaaDoor
