/-
  amblerlaw27.OrderKeys answers true: the walk.
-/
import Derived.Test.YtnakfnkmdiekhaaDoorOrdK
namespace Go.Proofs.YtnakfnkmdiekhaaDoor
open Go.RowKit Ieee

theorem num_form (ea : Nat → Addr) (w : World) (hE : ErrsAt w ea) :
    Calls Tryd.prog 22 #[.iface 104 (.pointer (some (ea 2)))] w fun e w' => e = .returned (.int .i64 3) ∧ Below w.heap.size w w' := by
  have := num_err ea 2 (by decide) w hE
  simpa using this

theorem keys_nat (k : Nat) (hk : k < 18446744073709551616) (ea : Nat → Addr) (w : World) (hE : ErrsAt w ea) :
    Calls Tryd.prog 5 #[.int .u64 (k : Int)] w fun e w' => e = .returned (.bool true) ∧ Below w.heap.size w w' := by
  by_cases hy : keyW (unkey k) = k
  · have H1 := Lib.hid (float_ok k hk hy)
    have H2 := Lib.hid (back_yes k hk hy)
    generalize unkey k = u at *
    clear hy hk hE
    have eb := bits_run
    go_enter Tryd.func5, Tryd.ntmps5
    go_wp2_with (first | (go_at_call 7; refine (alive_yes _).mono ?_; rintro e w1 ⟨rfl, rfl⟩) | (go_at_call 20; refine (H1.out _).mono ?_; rintro e w1 ⟨rfl, rfl⟩) | (go_at_call 21; refine (H2.out _).mono ?_; rintro e w1 ⟨rfl, rfl⟩))
    go_ret
    exact ⟨rfl, Below.refl _ _⟩
  · have H1 := Lib.hid (fun W hE => float_err k hk hy (ea 2) W hE)
    obtain ⟨f, hf⟩ := back_no k hk hy
    have H2 := Lib.hid hf
    have HE := Lib.hid hE
    have H3 := Lib.hid (fun W hE => num_form ea W hE)
    clear hy hk hE hf
    have eb : ∀ w : World, (callFunc 10 #[.float .f64 0]).run Tryd.prog w = .ok (.value (.int .u64 0)) w := fun w => bits_run w 0
    go_enter Tryd.func5, Tryd.ntmps5
    go_upto_region 4 with (first | (go_at_call 7; refine (alive_yes _).mono ?_; rintro e w1 ⟨rfl, rfl⟩) | (go_at_call 20; refine (H1.out _ (HE.out.one 2 (by decide))).mono ?_; rintro e w1 ⟨rfl, hb1⟩))
    have HB := Lib.hid (And.intro hb1 (HE.out.same hb1))
    clear hb1
    go_wp2_with (first | (go_at_call 21; refine (H2.out _).mono ?_; rintro e w2 ⟨rfl, rfl⟩) | (go_at_call 22; refine (H3.out _ HB.out.2).mono ?_; rintro e w3 ⟨rfl, hb3⟩))
    go_ret
    exact ⟨rfl, HB.out.1.trans (hb3.mono HB.out.1.size)⟩
theorem okeys_walk (x : Int) (w : World) (ea : Nat → Addr) (hE : ErrsAt w ea) (h0 : 0 ≤ x) (h1 : x < 18446744073709551616) :
    Calls Tryd.prog 5 #[.int .u64 x] w fun e w' => e = .returned (.bool true) ∧ Below w.heap.size w w' := by
  obtain ⟨k, rfl⟩ := Int.eq_ofNat_of_zero_le h0
  exact keys_nat k (by omega) ea w hE
end Go.Proofs.YtnakfnkmdiekhaaDoor
