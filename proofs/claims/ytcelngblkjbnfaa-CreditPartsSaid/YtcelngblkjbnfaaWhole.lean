/-
  The law CreditWhole, walked.
-/
import Derived.Test.YtcelngblkjbnfaaEarn
namespace Go.Proofs.Ytcelngblkjbnfaa
open Go.RowKit

theorem rest_facts (d : Nat) (hd : d < 1023 * 2 ^ 52) : (FloatKind.f64.format.order d d == some .eq) = true ∧ (FloatKind.f64.format.order d d != some .eq) = false ∧ (FloatKind.f64.format.order d 0 == some .gt || FloatKind.f64.format.order d 0 == some .eq) = true ∧ (FloatKind.f64.format.order d 4607182418800017408 == some .lt) = true := by
  have o1 : Ieee.double.order d d = some .eq := by rw [Ieee.order_rung d d (by omega) (by omega), if_neg (by omega), if_pos rfl]
  have o2 : Ieee.double.order d 4607182418800017408 = some .lt := by rw [Ieee.order_rung d _ (by omega) (by decide), if_pos (by omega)]
  refine ⟨?_, ?_, ?_, ?_⟩
  · show (Ieee.double.order d d == some .eq) = true; rw [o1]; rfl
  · show (Ieee.double.order d d != some .eq) = false; rw [o1]; rfl
  · show (Ieee.double.order d 0 == some .gt || Ieee.double.order d 0 == some .eq) = true
    rw [Ieee.order_rung d 0 (by omega) (by decide), if_neg (by omega)]
    split <;> rfl
  · show (Ieee.double.order d 4607182418800017408 == some .lt) = true; rw [o2]; rfl

theorem whole_walk (f : Nat) (hf : f < 2 ^ 64) (w : World) : Calls Try.prog 3 #[.float .f64 f] w fun e w' => e = .returned (.bool true) ∧ Below w.heap.size w w' := by
  obtain ⟨n, d, hn, hd, hC, hR, hcase⟩ := whole_both f hf
  obtain ⟨o1, _, o2, o3⟩ := rest_facts d hd
  have HC := Lib.hid hC
  have HR := Lib.hid hR
  clear hC hR hd hn hf
  rcases hcase with ⟨g1, rfl⟩ | ⟨g1, g2, rfl⟩ | ⟨g1, g2, g3⟩
  all_goals
    go_enter Try.func3, Try.ntmps3
    go_wp2_with (first | (go_at_call 7; refine (alive_yes _).mono ?_; rintro e w1 ⟨rfl, hb⟩) | (go_at_call 8; refine (HC.out _).mono ?_; rintro e w2 ⟨rfl, rfl⟩) | (go_at_call 9; refine (HR.out _).mono ?_; rintro e w2 ⟨rfl, rfl⟩))
    go_ret
    exact ⟨rfl, hb⟩
end Go.Proofs.Ytcelngblkjbnfaa
