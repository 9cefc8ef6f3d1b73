/-
  amblerlaw27.OrderForms answers true: the walk.
-/
import Derived.Test.YtnakfnkmdiekhaaDoorRefText
import Derived.Test.YtnakfnkmdiekhaaDoorTab
namespace Go.Proofs.YtnakfnkmdiekhaaDoor
open Go.RowKit Ieee

theorem forms_nat (b : Nat) (hb : b < 18446744073709551616) (w : World) (hT : TabAt w) :
    Calls Tryd.prog 3 #[.int .u64 (b : Int)] w fun e w' => e = .returned (.bool true) ∧ Below w.heap.size w w' := by
  have H1 := Lib.hid (refform_c b hb)
  have H2 := Lib.hid (form_c b hb)
  have H3 := Lib.hid (bits_c b hb)
  have H4 := Lib.hid (key_c b hb)
  have H5 := Lib.hid (refkey_c b hb)
  have H6 := Lib.hid (fun W hT => text_c b hb W hT)
  have H7 := Lib.hid (reftext_c b hb)
  have HT := Lib.hid hT
  clear hb hT
  generalize form b = f at *
  generalize keyW b = k at *
  generalize textW b = T at *
  have eb := bits_run
  have ef := fun w => from_run w b
  go_enter Tryd.func3, Tryd.ntmps3
  go_wp2_with (first | (go_at_call 7; refine (alive_yes _).mono ?_; rintro e w1 ⟨rfl, rfl⟩) | (go_at_call 9; refine (H1.out _).mono ?_; rintro e w1 ⟨rfl, rfl⟩) | (go_at_call 11; refine (H2.out _).mono ?_; rintro e w1 ⟨rfl, rfl⟩) | (go_at_call 12; refine (H3.out _).mono ?_; rintro e w1 ⟨rfl, rfl⟩) | (go_at_call 13; refine (H4.out _).mono ?_; rintro e w1 ⟨rfl, rfl⟩) | (go_at_call 14; refine (H5.out _).mono ?_; rintro e w1 ⟨rfl, rfl⟩) | (go_at_call 15; refine (H6.out _ HT.out).mono ?_; rintro e w2 ⟨rfl, hb2⟩) | (go_at_call 16; refine (H7.out _).mono ?_; rintro e w3 ⟨rfl, rfl⟩))
  go_ret
  exact ⟨rfl, hb2⟩
theorem forms_walk (x : Int) (w : World) (hT : TabAt w) (h0 : 0 ≤ x) (h1 : x < 18446744073709551616) :
    Calls Tryd.prog 3 #[.int .u64 x] w fun e w' => e = .returned (.bool true) ∧ Below w.heap.size w w' := by
  obtain ⟨k, rfl⟩ := Int.eq_ofNat_of_zero_le h0
  exact forms_nat k (by omega) w hT
end Go.Proofs.YtnakfnkmdiekhaaDoor
