/-
  PROVED: for every input the law PauseJoins answers true and leaves its arguments as they were. (Printed by mkrowp.py.)
-/
import Derived.Test.YtajklhlgakpgiaaRowP
import Derived.Test.YtajklhlgakpgiaaDArgF
import Derived.Test.YtajklhlgakpgiaaDJoins
import Derived.Lib.SmallJoins
import Derived.OpenShut
namespace Go.Proofs.Ytajklhlgakpgiaa.lawPauseJoins
open Go.ChangeShapes Go.WideShapes Go.ChangeAt Go.RowKit Go.Joins

theorem params_ok : ∀ t ∈ Try.f6.params.toList, Try.prog.readableRec t = true ∧ t < Try.prog.types.size := by
  have h : (Try.f6.params.toList.all fun t => Try.prog.readableRec t && decide (t < Try.prog.types.size)) = true := by kernel_rfl
  intro t ht
  have := List.all_eq_true.1 h t ht
  simpa using this

set_option maxRecDepth 100000 in
theorem lifted (os : Os) (started : os.Started) (H : Type) (enc : TypeId × Value → H) :
    ReturnsInHanded {} Try.checked os 6 .any (Rows.pauseJoinsSpec.pre6 enc Try.prog Try.f6 Rows.pauseJoinsRow.domain false)
      (Rows.pauseJoinsSpec.post enc Try.prog Try.f6 false true false false) := by
  refine returnsInHanded_of_change (C := Try.checked) own started (by kernel_rfl) Try.func6
    (ChangeSpec.witness6 (enc := enc) (C := Try.checked) false ⟨#[], #[.slice none 0 0, .slice none 0 0, .agg #[.float .f64 0, .float .f64 0, .float .f64 0]], []⟩ 8 (by kernel_rfl) (by kernel_rfl) (by kernel_rfl) (by kernel_rfl)) ?_
  intro W base args ds gs before hval0 hW _ _
  have hval : ∀ (j : Nat) t v, Try.f6.params[j]? = some t → args[j]? = some v → Value.okWide Try.prog W .any base t v := hval0
  have hW' := hW
  obtain ⟨p, q, hA0, hV, rfl, hfz, hnd⟩ := hW
  have hA : DataW.TrodAll enc Try.prog W 0 (fun _ => true) true Try.f6.params.toList args.toList ds p := hA0
  rw [Try.params6] at hA hval
  obtain ⟨v0, v1, v2, d0, d1, d2, p0, p1, p2, rfl, rfl, rfl, h0, h1, h2⟩ := trodAll_three hA
  obtain ⟨rfl, rfl⟩ := trodVars_none hV
  obtain ⟨fu0, hf0⟩ := h0
  obtain ⟨P0, N0, C0, L0, g0, hL0, HK0⟩ := nums_of (okWide_slice Try.underlying22 (hval 0 22 v0 rfl rfl)) hf0
  subst g0
  obtain ⟨fu1, hf1⟩ := h1
  obtain ⟨P1, N1, C1, L1, g1, hL1, HK1⟩ := nums_of (okWide_slice Try.underlying22 (hval 1 22 v1 rfl rfl)) hf1
  subst g1
  obtain ⟨fa2, fb2, fc2, g2, ba2, bb2, bc2⟩ := floats3_of (hval 2 52 v2 rfl rfl) h2
  subst g2
  refine (joins_c P0 N0 C0 L0 P1 N1 C1 L1 fa2 fb2 fc2 W bc2 hL0 HK0 hL1 HK1).mono fun e W' ⟨he, hb⟩ => ?_
  subst he
  exact ⟨_, rfl, law_close laidOut params_ok rfl hW' Try.underlying4 (by kernel_rfl) rfl hb⟩

theorem said : Rows.PauseJoinsSaid :=
  OpenClaim.holds_of_wide 6 Try.f6 rfl rfl rfl rfl rfl rfl rfl ⟨rfl, rfl, rfl, rfl, rfl⟩ rfl rfl rfl rfl rfl (by kernel_rfl) Try.func6 (by kernel_rfl)
    (of_decide_eq_true (by kernel_rfl)) (by unfold Func.isWrapper; first | (rw [if_pos (by decide +kernel)]; kernel_rfl) | (rw [if_neg (by decide +kernel)]; exact ⟨rfl, rfl⟩))
    (fun os started H enc _ => lifted os started H enc)
end Go.Proofs.Ytajklhlgakpgiaa.lawPauseJoins
