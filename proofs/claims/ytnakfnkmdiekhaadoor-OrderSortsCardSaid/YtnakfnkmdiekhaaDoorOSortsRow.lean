/-
  PROVED: for every input the law OrderSorts answers true and leaves its arguments as they were, where the listed error variables start as the program's text lays them (the card ties them). (Printed by mkrow.py.)
-/
import Derived.Test.YtnakfnkmdiekhaaDoorRow16
import Derived.Test.YtnakfnkmdiekhaaDoorOSorts
import Derived.Test.YtnakfnkmdiekhaaDoorCards
import Derived.Lib.SmallJoins
import Derived.OpenShut
import Derived.LaidSub
namespace Go.Proofs.YtnakfnkmdiekhaaDoor.lawOrderSorts
open Go.ChangeShapes Go.WideShapes Go.ChangeAt Go.RowKit Go.Joins

/-- The listed errors alone. -/
theorem kept_met {W : World} (h : laidMet Tryd.prog Rows.orderSortsRow.laid W) : laidMet Tryd.prog (texts16.map (sent "*errors.errorString")) W := by
  have h2 := laidMet.filter (fun x => match x.2 with | .iface _ _ => true | _ => false) h
  have e : (Rows.orderSortsRow.laid.filter fun x => match x.2 with | .iface _ _ => true | _ => false) = texts16.map (sent "*errors.errorString") := by kernel_rfl
  rw [e] at h2
  exact h2
theorem door_met (os : Os) (args : Array Value) : laidMetH Tryd.prog Rows.orderSortsRow.laid ((World.doorLaid Tryd.prog 328 os).forCall (fun _ _ => 0) ⟨#[], args, []⟩).memory :=
  laidMetH_of_parts3 (fuel := 8) (laidMet_of_run' 8 (by kernel_rfl) (by kernel_rfl)) (by kernel_rfl) (by kernel_rfl)
theorem errs {W : World} (h : laidMetH Tryd.prog Rows.orderSortsRow.laid W) : ∃ ea : Nat → Addr, ErrsAt W ea := by
  rw [MakeChecks.laidMetH_plain _ _ _ (by kernel_rfl)] at h
  exact err16 (kept_met h)
theorem params_ok : ∀ t ∈ Tryd.f6.params.toList, Tryd.prog.readableRec t = true ∧ t < Tryd.prog.types.size := by
  have h : (Tryd.f6.params.toList.all fun t => Tryd.prog.readableRec t && decide (t < Tryd.prog.types.size)) = true := by kernel_rfl
  intro t ht
  have := List.all_eq_true.1 h t ht
  simpa using this

set_option maxRecDepth 100000 in
theorem lifted (os : Os) (started : os.Started) (H : Type) (enc : TypeId × Value → H) :
    ReturnsInHanded {} Tryd.checked os 6 .any (fun w args => (Rows.orderSortsSpec.pre enc Tryd.prog Tryd.f6 [] false w args ∧ laidMetH Tryd.prog Rows.orderSortsRow.laid w) ∧ sizedMet enc Tryd.prog Tryd.f6 (OpenSpec.ofChange Rows.orderSortsSpec) false w args)
      (Rows.orderSortsSpec.post enc Tryd.prog Tryd.f6 false true false false) := by
  refine returnsInHanded_of_change_and (C := Tryd.checked) (X := fun w _ => laidMetH Tryd.prog Rows.orderSortsRow.laid w) (fun _ _ _ hh h => h.of_heap hh) own started (by kernel_rfl) Tryd.func6
    (ChangeSpec.witness_shaped (enc := enc) (C := Tryd.checked) (os := os) (X := fun w _ => laidMetH Tryd.prog Rows.orderSortsRow.laid w) false (World.doorLaid Tryd.prog 328 os) #[.float .f64 0, .float .f64 0] 8 rfl (World.shaped_of_RefB (by kernel_rfl) (by kernel_rfl)) (by kernel_rfl) (by kernel_rfl) (by kernel_rfl) (door_met os _)) ?_
  intro W base args ds gs before hval0 hW _ _ hL _
  have hval : ∀ (j : Nat) t v, Tryd.f6.params[j]? = some t → args[j]? = some v → Value.okWide Tryd.prog W .any base t v := hval0
  obtain ⟨er, hE⟩ := errs hL
  have hW' := hW
  obtain ⟨p, q, hA0, hV, rfl, hfz, hnd⟩ := hW
  have hA : DataW.TrodAll enc Tryd.prog W 0 (fun _ => true) true Tryd.f6.params.toList args.toList ds p := hA0
  rw [Tryd.params6] at hA hval
  obtain ⟨v0, v1, d0, d1, p0, p1, rfl, rfl, rfl, h0, h1⟩ := trodAll_two hA
  obtain ⟨rfl, rfl⟩ := trodVars_none hV
  obtain ⟨x0, e00, rfl, e01, w0⟩ := open_float Tryd.underlying24 (hval 0 24 v0 rfl rfl) h0
  subst e00 e01
  have b0 : x0 < 2 ^ 64 := by simpa [Lit.wf] using w0
  obtain ⟨x1, e10, rfl, e11, w1⟩ := open_float Tryd.underlying24 (hval 1 24 v1 rfl rfl) h1
  subst e10 e11
  have b1 : x1 < 2 ^ 64 := by simpa [Lit.wf] using w1
  refine (sorts_walk x0 x1 W er hE b0 b1).mono fun e W' ⟨he, hb⟩ => ?_
  subst he
  exact ⟨_, rfl, law_close laidOut params_ok rfl hW' Tryd.underlying4 (by kernel_rfl) rfl hb⟩

theorem said : Rows.OrderSortsSaid :=
  OpenClaim.holds_of_wide 6 Tryd.f6 rfl rfl rfl rfl rfl rfl rfl ⟨rfl, rfl, rfl, rfl, rfl⟩ rfl rfl rfl rfl rfl (by kernel_rfl) Tryd.func6 (by kernel_rfl)
    (of_decide_eq_true (by kernel_rfl)) (by unfold Func.isWrapper; first | (rw [if_pos (by decide +kernel)]; kernel_rfl) | (rw [if_neg (by decide +kernel)]; exact ⟨rfl, rfl⟩))
    (fun os started H enc _ => lifted os started H enc)

theorem plain (f : FuncId) (fn : Func) (hf : Tryd.pinned.checked.prog.funcNamed "ambler/amblerlaw27.OrderSorts" = some f) (hfn : Tryd.pinned.checked.prog.funcs[f]? = some fn) :
    true = Tryd.pinned.checked.prog.looks [] ∧ ∀ (j : Nat) t, fn.params[j]? = some t → Tryd.pinned.checked.prog.wantsStandIn t = false := by
  obtain rfl : f = 6 := Option.some.inj ((show Tryd.prog.funcNamed "ambler/amblerlaw27.OrderSorts" = some 6 by kernel_rfl).symm.trans hf) |>.symm
  obtain rfl : fn = Tryd.f6 := (Option.some.inj (Tryd.func6.symm.trans hfn)).symm
  refine ⟨by kernel_rfl, fun j t ht => ?_⟩
  have h : (Tryd.f6.params.toList.all fun t => !Tryd.prog.wantsStandIn t) = true := by kernel_rfl
  have := List.all_eq_true.1 h t (List.mem_of_getElem? (by simpa using ht))
  exact (by simpa using this : Tryd.prog.wantsStandIn t = false)

theorem card : Rows.OrderSortsCardSaid :=
  Claim7.holds_tied_plain_at .later [] _ _ _ _ said (fun _ h => by cases h) (by kernel_rfl) (fun _ h => by cases h) orderSorts_row_tie rfl ⟨rfl, rfl⟩ (by kernel_rfl) rfl plain (by kernel_rfl)
end Go.Proofs.YtnakfnkmdiekhaaDoor.lawOrderSorts
