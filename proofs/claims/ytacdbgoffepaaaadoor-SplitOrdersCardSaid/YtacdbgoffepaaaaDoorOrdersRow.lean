/-
  PROVED: for every two entries and every depth amblerlaw03.SplitOrders answers true and leaves its arguments as they were, where the listed error variable starts as the program's text lays it (the card ties it).
-/
import Derived.Test.YtacdbgoffepaaaaDoorRow
import Derived.Test.YtacdbgoffepaaaaDoorOrders
import Derived.Test.YtacdbgoffepaaaaDoorCards
import Derived.Lib.SmallJoins
import Derived.OpenShut
namespace Go.Proofs.YtacdbgoffepaaaaDoor.lawSplitOrders
open Go.ChangeShapes Go.WideShapes Go.ChangeAt Go.RowKit Go.Joins

theorem door_met (os : Os) (args : Array Value) : laidMetH Tryd.prog Rows.splitOrdersRow.laid ((World.doorLaid Tryd.prog 313 os).forCall (fun _ _ => 0) ⟨#[], args, []⟩).memory :=
  laidMetH_of_parts3 (fuel := 8) (laidMet_of_run' 8 (by kernel_rfl) (by kernel_rfl)) (by kernel_rfl) (by kernel_rfl)
theorem err_range {W : World} (h : laidMetH Tryd.prog Rows.splitOrdersRow.laid W) : ∃ a, ErrAt W 0 a := by
  rw [MakeChecks.laidMetH_plain _ _ _ (by kernel_rfl)] at h
  exact one_of (n := "ambler/api.ErrRange") (by kernel_rfl) (by kernel_rfl) h
theorem cellsE : Tryd.prog.cellsOf 42 = 3 := by kernel_rfl
theorem params_ok : ∀ t ∈ Tryd.f6.params.toList, Tryd.prog.readableRec t = true ∧ t < Tryd.prog.types.size := by
  have h : (Tryd.f6.params.toList.all fun t => Tryd.prog.readableRec t && decide (t < Tryd.prog.types.size)) = true := by kernel_rfl
  intro t ht
  have := List.all_eq_true.1 h t ht
  simpa using this

set_option maxRecDepth 100000 in
theorem lifted (os : Os) (started : os.Started) (H : Type) (enc : TypeId × Value → H) :
    ReturnsInHanded {} Tryd.checked os 6 .any (fun w args => (Rows.splitOrdersSpec.pre enc Tryd.prog Tryd.f6 [] false w args ∧ laidMetH Tryd.prog Rows.splitOrdersRow.laid w) ∧ sizedMet enc Tryd.prog Tryd.f6 (OpenSpec.ofChange Rows.splitOrdersSpec) false w args)
      (Rows.splitOrdersSpec.post enc Tryd.prog Tryd.f6 false true false false) := by
  refine returnsInHanded_of_change_and (C := Tryd.checked) (X := fun w _ => laidMetH Tryd.prog Rows.splitOrdersRow.laid w) (fun _ _ _ hh h => h.of_heap hh) own started (by kernel_rfl) Tryd.func6
    (ChangeSpec.witness_shaped (enc := enc) (C := Tryd.checked) (os := os) (X := fun w _ => laidMetH Tryd.prog Rows.splitOrdersRow.laid w) false (World.doorLaid Tryd.prog 313 os) #[entV 0 0 0, entV 0 0 0, .int .i64 0] 8 rfl (World.shaped_of_RefB (by kernel_rfl) (by kernel_rfl)) (by kernel_rfl) (by kernel_rfl) (by kernel_rfl) (door_met os _)) ?_
  intro W base args ds gs before hval0 hW _ _ hL _
  have hval : ∀ (j : Nat) t v, Tryd.f6.params[j]? = some t → args[j]? = some v → Value.okWide Tryd.prog W .any base t v := hval0
  obtain ⟨er, hE⟩ := err_range hL
  have hW' := hW
  obtain ⟨p, q, hA0, hV, rfl, hfz, hnd⟩ := hW
  have hA : DataW.TrodAll enc Tryd.prog W 0 (fun _ => true) true Tryd.f6.params.toList args.toList ds p := hA0
  rw [Tryd.params6] at hA hval
  obtain ⟨v0, v1, v2, d0, d1, d2, p0, p1, p2, rfl, rfl, rfl, h0, h1, h2⟩ := trodAll_three hA
  obtain ⟨rfl, rfl⟩ := trodVars_none hV
  obtain ⟨a0, a1, a2, y0, y1, y2, n, rfl, rfl, rfl, t0, t1, t2⟩ := open_agg3 Tryd.underlying42 (by kernel_rfl) cellsE (hval 0 42 v0 rfl rfl) h0
  obtain ⟨b0, b1, b2, z0, z1, z2, m, rfl, rfl, rfl, u0, u1, u2⟩ := open_agg3 Tryd.underlying42 (by kernel_rfl) cellsE (hval 1 42 v1 rfl rfl) h1
  obtain ⟨dd, rfl, rfl, rfl, wd⟩ := open_int Tryd.underlying3 (hval 2 3 v2 rfl rfl) h2
  obtain ⟨k1, e0, rfl, wk1⟩ := DataW.trod_int Tryd.underlying22 t0
  obtain ⟨x1, e1, rfl, wx1⟩ := DataW.trod_int Tryd.underlying22 t1
  obtain ⟨g1, e2, rfl, wg1⟩ := DataW.trod_int Tryd.underlying22 t2
  obtain ⟨k2, e3, rfl, wk2⟩ := DataW.trod_int Tryd.underlying22 u0
  obtain ⟨x2, e4, rfl, wx2⟩ := DataW.trod_int Tryd.underlying22 u1
  obtain ⟨g2, e5, rfl, wg2⟩ := DataW.trod_int Tryd.underlying22 u2
  simp at e0 e1 e2 e3 e4 e5
  subst e0 e1 e2 e3 e4 e5
  have c1 := bounds_u64 wk1
  have c2 := bounds_u64 wg1
  have c3 := bounds_u64 wk2
  have c4 := bounds_u64 wg2
  have c5 := bounds_i64 wd
  refine (orders_walk k1 x1 g1 k2 x2 g2 dd W er hE c1.1 (by omega) c2.1 (by omega) c3.1 (by omega) c4.1 (by omega) c5.1 c5.2).mono fun e W' ⟨he, hb⟩ => ?_
  subst he
  exact ⟨_, rfl, law_close laidOut params_ok rfl hW' Tryd.underlying4 (by kernel_rfl) rfl hb⟩

theorem said : Rows.SplitOrdersSaid :=
  OpenClaim.holds_of_wide 6 Tryd.f6 rfl rfl rfl rfl rfl rfl rfl ⟨rfl, rfl, rfl, rfl, rfl⟩ rfl rfl rfl rfl rfl (by kernel_rfl) Tryd.func6 (by kernel_rfl)
    (of_decide_eq_true (by kernel_rfl)) (by unfold Func.isWrapper; first | (rw [if_pos (by decide +kernel)]; kernel_rfl) | (rw [if_neg (by decide +kernel)]; exact ⟨rfl, rfl⟩))
    (fun os started H enc _ => lifted os started H enc)

theorem plain (f : FuncId) (fn : Func) (hf : Tryd.pinned.checked.prog.funcNamed "ambler/amblerlaw03.SplitOrders" = some f) (hfn : Tryd.pinned.checked.prog.funcs[f]? = some fn) :
    true = Tryd.pinned.checked.prog.looks [] ∧ ∀ (j : Nat) t, fn.params[j]? = some t → Tryd.pinned.checked.prog.wantsStandIn t = false := by
  obtain rfl : f = 6 := Option.some.inj ((show Tryd.prog.funcNamed "ambler/amblerlaw03.SplitOrders" = some 6 by kernel_rfl).symm.trans hf) |>.symm
  obtain rfl : fn = Tryd.f6 := (Option.some.inj (Tryd.func6.symm.trans hfn)).symm
  refine ⟨by kernel_rfl, fun j t ht => ?_⟩
  have h : (Tryd.f6.params.toList.all fun t => !Tryd.prog.wantsStandIn t) = true := by kernel_rfl
  have := List.all_eq_true.1 h t (List.mem_of_getElem? (by simpa using ht))
  exact (by simpa using this : Tryd.prog.wantsStandIn t = false)

theorem card : Rows.SplitOrdersCardSaid :=
  Claim7.holds_tied_plain_at .later [] _ _ _ _ said (fun _ h => by cases h) (by kernel_rfl) (fun _ h => by cases h) splitOrders_row_tie rfl ⟨rfl, rfl⟩ (by kernel_rfl) rfl plain (by kernel_rfl)
end Go.Proofs.YtacdbgoffepaaaaDoor.lawSplitOrders
