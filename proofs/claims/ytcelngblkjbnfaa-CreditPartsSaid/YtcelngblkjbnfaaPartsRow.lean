/-
  PROVED: for every input the law CreditParts answers true and leaves its arguments as they were. (Printed by mkrowp.py.)
-/
import Derived.Test.YtcelngblkjbnfaaRowP
import Derived.Test.YtcelngblkjbnfaaParts
import Derived.Lib.SmallJoins
import Derived.OpenShut
namespace Go.Proofs.Ytcelngblkjbnfaa.lawCreditParts
open Go.ChangeShapes Go.WideShapes Go.ChangeAt Go.RowKit Go.Joins

theorem params_ok : ∀ t ∈ Try.f4.params.toList, Try.prog.readableRec t = true ∧ t < Try.prog.types.size := by
  have h : (Try.f4.params.toList.all fun t => Try.prog.readableRec t && decide (t < Try.prog.types.size)) = true := by kernel_rfl
  intro t ht
  have := List.all_eq_true.1 h t ht
  simpa using this

set_option maxRecDepth 100000 in
theorem lifted (os : Os) (started : os.Started) (H : Type) (enc : TypeId × Value → H) :
    ReturnsInHanded {} Try.checked os 4 .any (Rows.creditPartsSpec.pre6 enc Try.prog Try.f4 Rows.creditPartsRow.domain false)
      (Rows.creditPartsSpec.post enc Try.prog Try.f4 false true false false) := by
  refine returnsInHanded_of_change (C := Try.checked) own started (by kernel_rfl) Try.func4
    (ChangeSpec.witness6 (enc := enc) (C := Try.checked) false ⟨#[], #[.int .i64 0, .int .i64 0], []⟩ 8 (by kernel_rfl) (by kernel_rfl) (by kernel_rfl) (by kernel_rfl)) ?_
  intro W base args ds gs before hval0 hW _ _
  have hval : ∀ (j : Nat) t v, Try.f4.params[j]? = some t → args[j]? = some v → Value.okWide Try.prog W .any base t v := hval0
  have hW' := hW
  obtain ⟨p, q, hA0, hV, rfl, hfz, hnd⟩ := hW
  have hA : DataW.TrodAll enc Try.prog W 0 (fun _ => true) true Try.f4.params.toList args.toList ds p := hA0
  rw [Try.params4] at hA hval
  obtain ⟨v0, v1, d0, d1, p0, p1, rfl, rfl, rfl, h0, h1⟩ := trodAll_two hA
  obtain ⟨rfl, rfl⟩ := trodVars_none hV
  obtain ⟨x0, e00, rfl, e01, w0⟩ := open_int Try.underlying3 (hval 0 3 v0 rfl rfl) h0
  subst e00 e01
  have b0 := bounds_i64 w0
  obtain ⟨x1, e10, rfl, e11, w1⟩ := open_int Try.underlying3 (hval 1 3 v1 rfl rfl) h1
  subst e10 e11
  have b1 := bounds_i64 w1
  refine (parts_walk x0 x1 W).mono fun e W' ⟨he, hb⟩ => ?_
  subst he
  exact ⟨_, rfl, law_close laidOut params_ok rfl hW' Try.underlying4 (by kernel_rfl) rfl hb⟩

theorem said : Rows.CreditPartsSaid :=
  OpenClaim.holds_of_wide 4 Try.f4 rfl rfl rfl rfl rfl rfl rfl ⟨rfl, rfl, rfl, rfl, rfl⟩ rfl rfl rfl rfl rfl (by kernel_rfl) Try.func4 (by kernel_rfl)
    (of_decide_eq_true (by kernel_rfl)) (by unfold Func.isWrapper; first | (rw [if_pos (by decide +kernel)]; kernel_rfl) | (rw [if_neg (by decide +kernel)]; exact ⟨rfl, rfl⟩))
    (fun os started H enc _ => lifted os started H enc)
end Go.Proofs.Ytcelngblkjbnfaa.lawCreditParts
