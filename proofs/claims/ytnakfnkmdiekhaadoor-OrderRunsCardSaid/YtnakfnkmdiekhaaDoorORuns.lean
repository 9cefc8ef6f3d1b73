/-
  amblerlaw27.OrderRuns answers true: the walk, by cases. (Printed by mkruns.py.)
-/
import Derived.Test.YtnakfnkmdiekhaaDoorRunsP
import Derived.Test.YtnakfnkmdiekhaaDoorTab
import Derived.Test.YtnakfnkmdiekhaaDoorOSorts
namespace Go.Proofs.YtnakfnkmdiekhaaDoor
open Go.RowKit Ieee Go.ChangeShapes Go.WideShapes Go.Joins

section
variable {H : Type} {enc : TypeId × Value → H}
theorem trod_float {P : Program} {w : World} {base : Nat} {sp : Nat → Bool} {held : Bool} {fuel : Nat} {t : TypeId} {cs : List Value} {x : DataW H × List MemPlace} {k : FloatKind} (ht : P.underlying t = some (.float k)) (h : DataW.trod enc P w base sp held fuel t cs = some x) :
    ∃ b, cs = [.float k b] ∧ (Lit.float k b).wf = true := by
  cases fuel with
  | zero => simp [DataW.trod] at h
  | succ n =>
    unfold DataW.trod at h
    rw [ht] at h
    split at h <;> simp_all
set_option maxRecDepth 100000 in
theorem floats3_of {W : World} {base b0 : Nat} {sp : Nat → Bool} {held : Bool} {v : Value} {d : DataW H} {p : List MemPlace} (hv : Value.okWide Tryd.prog W .any base 32 v) (h : DataW.Trod enc Tryd.prog W b0 sp held 32 v d p) :
    ∃ a b c : Nat, v = .agg #[.float .f64 a, .float .f64 b, .float .f64 c] ∧ a < 2 ^ 64 ∧ b < 2 ^ 64 ∧ c < 2 ^ 64 := by
  simp only [Value.okWide, Tryd.underlying32] at hv
  obtain ⟨cs, rfl, hsz, _⟩ := hv
  have hc3 : Tryd.prog.cellsOf 32 = 3 := by kernel_rfl
  have hc1 : Tryd.prog.cellsOf 24 = 1 := by kernel_rfl
  obtain ⟨c0, c1, c2, rfl⟩ := array3 (hsz.trans hc3)
  obtain ⟨fuel, hf⟩ := h
  obtain ⟨xs, m, _, _, _, hl, hall⟩ := DataW.trod_array Tryd.underlying32 hf
  have get : ∀ i, i < 3 → ∃ y, xs[i]? = some y := fun i hi => ⟨_, List.getElem?_eq_getElem (by omega)⟩
  have f0 := hall 0 (by decide)
  have f1 := hall 1 (by decide)
  have f2 := hall 2 (by decide)
  obtain ⟨y0, e0⟩ := get 0 (by decide)
  obtain ⟨y1, e1⟩ := get 1 (by decide)
  obtain ⟨y2, e2⟩ := get 2 (by decide)
  rw [hc1, e0] at f0
  rw [hc1, e1] at f1
  rw [hc1, e2] at f2
  obtain ⟨a, g0, w0⟩ := trod_float Tryd.underlying24 f0
  obtain ⟨b, g1, w1⟩ := trod_float Tryd.underlying24 f1
  obtain ⟨c, g2, w2⟩ := trod_float Tryd.underlying24 f2
  simp [Value.cells] at g0 g1 g2
  subst g0 g1 g2
  exact ⟨a, b, c, rfl, by simpa [Lit.wf] using w0, by simpa [Lit.wf] using w1, by simpa [Lit.wf] using w2⟩
end

/-- What the walk knows of a world. -/
structure RunAt (w0 w : World) (ea : Addr) : Prop where
  old : Below w0.heap.size w0 w
  tab : TabAt w
  err : ErrAt w 1 ea
theorem RunAt.step {w0 w w' : World} {ea : Addr} (h : RunAt w0 w ea) (hb : Below w.heap.size w w') : RunAt w0 w' ea :=
  ⟨h.old.trans (hb.mono h.old.size), (hb.cell (p := ⟨20, 15, none⟩) (block_lt_of_cell h.tab)).trans h.tab, h.err.same hb⟩

set_option maxHeartbeats 1000000 in
set_option maxRecDepth 100000 in
theorem runs_a1 (a b c f f2 n : Nat) (T T2 : ByteArray) (ea : Addr) (w : World) (hR : RunAt w w ea)
    (LAB : Hid (∀ w, Calls Tryd.prog 17 #[.float .f64 a, .float .f64 b] w fun e w' => e = .returned (.bool true) ∧ w = w'))
    (SAB : Hid (∀ w, Calls Tryd.prog 18 #[.float .f64 a, .float .f64 b] w fun e w' => e = .returned (.bool false) ∧ w = w'))
    (LBC : Hid (∀ w, Calls Tryd.prog 17 #[.float .f64 b, .float .f64 c] w fun e w' => e = .returned (.bool true) ∧ w = w'))
    (LAC : Hid (∀ w, Calls Tryd.prog 17 #[.float .f64 a, .float .f64 c] w fun e w' => e = .returned (.bool true) ∧ w = w'))
    (BA : Hid (∀ w, Calls Tryd.prog 12 #[.float .f64 a] w fun e w' => e = .returned (.int .u64 (f : Nat)) ∧ w = w'))
    (BB : Hid (∀ w, Calls Tryd.prog 12 #[.float .f64 b] w fun e w' => e = .returned (.int .u64 (f2 : Nat)) ∧ w = w'))
    (FA : Hid (∀ w, Calls Tryd.prog 11 #[.float .f64 a] w fun e w' => e = .returned (.float .f64 f) ∧ w = w'))
    (SFA : Hid (∀ w, Calls Tryd.prog 18 #[.float .f64 f, .float .f64 a] w fun e w' => e = .returned (.bool true) ∧ w = w'))
    (TA : Hid (∀ W, TabAt W → Calls Tryd.prog 15 #[.float .f64 a] W fun e w' => e = .returned (.string T) ∧ Below W.heap.size W w'))
    (TB : Hid (∀ W, TabAt W → Calls Tryd.prog 15 #[.float .f64 b] W fun e w' => e = .returned (.string T2) ∧ Below W.heap.size W w'))
    (tne : (T.toList == T2.toList) = false)
    (fne : ((f : Int) == (f2 : Int)) = false)
    (NX : Hid (∀ w, Calls Tryd.prog 19 #[.float .f64 a] w fun e w' => e = .returned (.tuple #[.float .f64 n, .nilIface]) ∧ w = w'))
    (LAN : Hid (∀ w, Calls Tryd.prog 17 #[.float .f64 a, .float .f64 n] w fun e w' => e = .returned (.bool true) ∧ w = w'))
    (LBN : Hid (∀ w, Calls Tryd.prog 17 #[.float .f64 b, .float .f64 n] w fun e w' => e = .returned (.bool false) ∧ w = w')) :
    Calls Tryd.prog 4 #[.agg #[.float .f64 a, .float .f64 b, .float .f64 c]] w fun e w' => e = .returned (.bool true) ∧ Below w.heap.size w w' := by
  have HA := Lib.hid alive_yes
  have HS0 := Lib.hid hR
  clear hR
  go_enter Tryd.func4, Tryd.ntmps4
  go_upto_region 3 with (go_at_call 7; refine (HA.out _).mono ?_; rintro e w1 ⟨rfl, rfl⟩)
  generalize hw1 : w.alloc (Obj.cells #[Value.float FloatKind.f64 a, Value.float FloatKind.f64 b, Value.float FloatKind.f64 c] 32) = w1
  have HS := Lib.hid (show RunAt w w1 ea by subst hw1; exact HS0.out.step ((Below.refl _ _).alloc (Nat.le_refl _) _))
  have hB : Blk w1 w.heap.size 32 #[.float .f64 a, .float .f64 b, .float .f64 c] := by subst hw1; exact Blk.new w _ _
  have HB := Lib.hid hB
  clear hw1 hB HS0
  generalize w.heap.size = ab at *
  refine region_all (C := Below w1.heap.size w1) (by kernel_rfl) (by kernel_rfl) (below_drew _) ?_
  have HC0 : Below w1.heap.size w1 w1 := Below.refl _ _
  open BigFrame in
  repeat (first | go_big_quiet_skip | (go_big_quiet_want; first | (apply quiet_one (hC := HC0); exact rfl; exact Nat.le_of_ble_eq_true rfl; (focus (intro w' hw'; have q0 := (HB.out.below hw').cell 0; have q1 := (HB.out.below hw').cell 1; have q2 := (HB.out.below hw').cell 2; simp at q0 q1 q2; go_big_quiet_op; with_reducible exact rfl)); go_big_quiet_on) | (go_big_quiet_op; apply Exists.intro; refine ⟨fun w' hw' => ?_, ?_⟩; (focus (have q0 := (HB.out.below hw').cell 0; have q1 := (HB.out.below hw').cell 1; have q2 := (HB.out.below hw').cell 2; simp at q0 q1 q2; fail)); go_big_quiet_on)))
  refine wpQuiet_nil ?_
  intro w6 hb6
  replace HS := Lib.hid (HS.out.step hb6)
  clear hb6 HC0 HB
  go_wp2_with (first | (go_at_call 7; refine (HA.out _).mono ?_; rintro e w1 ⟨rfl, rfl⟩) | (go_at_call 17; (with_reducible refine (LAB.out _).mono ?_); rintro e w1 ⟨rfl, rfl⟩) | (go_at_call 18; (with_reducible refine (SAB.out _).mono ?_); rintro e w1 ⟨rfl, rfl⟩) | (go_at_call 17; (with_reducible refine (LBC.out _).mono ?_); rintro e w1 ⟨rfl, rfl⟩) | (go_at_call 17; (with_reducible refine (LAC.out _).mono ?_); rintro e w1 ⟨rfl, rfl⟩) | (go_at_call 12; (with_reducible refine (BA.out _).mono ?_); rintro e w1 ⟨rfl, rfl⟩) | (go_at_call 12; (with_reducible refine (BB.out _).mono ?_); rintro e w1 ⟨rfl, rfl⟩) | (go_at_call 11; (with_reducible refine (FA.out _).mono ?_); rintro e w1 ⟨rfl, rfl⟩) | (go_at_call 18; (with_reducible refine (SFA.out _).mono ?_); rintro e w1 ⟨rfl, rfl⟩) | (go_at_call 15; (with_reducible refine (TA.out _ HS.out.tab).mono ?_); rintro e w5 ⟨rfl, hb5⟩; replace HS := Lib.hid (HS.out.step hb5); clear hb5) | (go_at_call 15; (with_reducible refine (TB.out _ HS.out.tab).mono ?_); rintro e w5 ⟨rfl, hb5⟩; replace HS := Lib.hid (HS.out.step hb5); clear hb5) | (go_at_call 19; (with_reducible refine (NX.out _).mono ?_); rintro e w1 ⟨rfl, rfl⟩) | (go_at_call 17; (with_reducible refine (LAN.out _).mono ?_); rintro e w1 ⟨rfl, rfl⟩) | (go_at_call 17; (with_reducible refine (LBN.out _).mono ?_); rintro e w1 ⟨rfl, rfl⟩))
  go_ret
  exact ⟨rfl, HS.out.old⟩

set_option maxHeartbeats 1000000 in
set_option maxRecDepth 100000 in
theorem runs_a2 (a b c f f2 n : Nat) (T T2 : ByteArray) (ea : Addr) (w : World) (hR : RunAt w w ea)
    (LAB : Hid (∀ w, Calls Tryd.prog 17 #[.float .f64 a, .float .f64 b] w fun e w' => e = .returned (.bool true) ∧ w = w'))
    (SAB : Hid (∀ w, Calls Tryd.prog 18 #[.float .f64 a, .float .f64 b] w fun e w' => e = .returned (.bool false) ∧ w = w'))
    (LBC : Hid (∀ w, Calls Tryd.prog 17 #[.float .f64 b, .float .f64 c] w fun e w' => e = .returned (.bool false) ∧ w = w'))
    (BA : Hid (∀ w, Calls Tryd.prog 12 #[.float .f64 a] w fun e w' => e = .returned (.int .u64 (f : Nat)) ∧ w = w'))
    (BB : Hid (∀ w, Calls Tryd.prog 12 #[.float .f64 b] w fun e w' => e = .returned (.int .u64 (f2 : Nat)) ∧ w = w'))
    (FA : Hid (∀ w, Calls Tryd.prog 11 #[.float .f64 a] w fun e w' => e = .returned (.float .f64 f) ∧ w = w'))
    (SFA : Hid (∀ w, Calls Tryd.prog 18 #[.float .f64 f, .float .f64 a] w fun e w' => e = .returned (.bool true) ∧ w = w'))
    (TA : Hid (∀ W, TabAt W → Calls Tryd.prog 15 #[.float .f64 a] W fun e w' => e = .returned (.string T) ∧ Below W.heap.size W w'))
    (TB : Hid (∀ W, TabAt W → Calls Tryd.prog 15 #[.float .f64 b] W fun e w' => e = .returned (.string T2) ∧ Below W.heap.size W w'))
    (tne : (T.toList == T2.toList) = false)
    (fne : ((f : Int) == (f2 : Int)) = false)
    (NX : Hid (∀ w, Calls Tryd.prog 19 #[.float .f64 a] w fun e w' => e = .returned (.tuple #[.float .f64 n, .nilIface]) ∧ w = w'))
    (LAN : Hid (∀ w, Calls Tryd.prog 17 #[.float .f64 a, .float .f64 n] w fun e w' => e = .returned (.bool true) ∧ w = w'))
    (LBN : Hid (∀ w, Calls Tryd.prog 17 #[.float .f64 b, .float .f64 n] w fun e w' => e = .returned (.bool false) ∧ w = w')) :
    Calls Tryd.prog 4 #[.agg #[.float .f64 a, .float .f64 b, .float .f64 c]] w fun e w' => e = .returned (.bool true) ∧ Below w.heap.size w w' := by
  have HA := Lib.hid alive_yes
  have HS0 := Lib.hid hR
  clear hR
  go_enter Tryd.func4, Tryd.ntmps4
  go_upto_region 3 with (go_at_call 7; refine (HA.out _).mono ?_; rintro e w1 ⟨rfl, rfl⟩)
  generalize hw1 : w.alloc (Obj.cells #[Value.float FloatKind.f64 a, Value.float FloatKind.f64 b, Value.float FloatKind.f64 c] 32) = w1
  have HS := Lib.hid (show RunAt w w1 ea by subst hw1; exact HS0.out.step ((Below.refl _ _).alloc (Nat.le_refl _) _))
  have hB : Blk w1 w.heap.size 32 #[.float .f64 a, .float .f64 b, .float .f64 c] := by subst hw1; exact Blk.new w _ _
  have HB := Lib.hid hB
  clear hw1 hB HS0
  generalize w.heap.size = ab at *
  refine region_all (C := Below w1.heap.size w1) (by kernel_rfl) (by kernel_rfl) (below_drew _) ?_
  have HC0 : Below w1.heap.size w1 w1 := Below.refl _ _
  open BigFrame in
  repeat (first | go_big_quiet_skip | (go_big_quiet_want; first | (apply quiet_one (hC := HC0); exact rfl; exact Nat.le_of_ble_eq_true rfl; (focus (intro w' hw'; have q0 := (HB.out.below hw').cell 0; have q1 := (HB.out.below hw').cell 1; have q2 := (HB.out.below hw').cell 2; simp at q0 q1 q2; go_big_quiet_op; with_reducible exact rfl)); go_big_quiet_on) | (go_big_quiet_op; apply Exists.intro; refine ⟨fun w' hw' => ?_, ?_⟩; (focus (have q0 := (HB.out.below hw').cell 0; have q1 := (HB.out.below hw').cell 1; have q2 := (HB.out.below hw').cell 2; simp at q0 q1 q2; fail)); go_big_quiet_on)))
  refine wpQuiet_nil ?_
  intro w6 hb6
  replace HS := Lib.hid (HS.out.step hb6)
  clear hb6 HC0 HB
  go_wp2_with (first | (go_at_call 7; refine (HA.out _).mono ?_; rintro e w1 ⟨rfl, rfl⟩) | (go_at_call 17; (with_reducible refine (LAB.out _).mono ?_); rintro e w1 ⟨rfl, rfl⟩) | (go_at_call 18; (with_reducible refine (SAB.out _).mono ?_); rintro e w1 ⟨rfl, rfl⟩) | (go_at_call 17; (with_reducible refine (LBC.out _).mono ?_); rintro e w1 ⟨rfl, rfl⟩) | (go_at_call 12; (with_reducible refine (BA.out _).mono ?_); rintro e w1 ⟨rfl, rfl⟩) | (go_at_call 12; (with_reducible refine (BB.out _).mono ?_); rintro e w1 ⟨rfl, rfl⟩) | (go_at_call 11; (with_reducible refine (FA.out _).mono ?_); rintro e w1 ⟨rfl, rfl⟩) | (go_at_call 18; (with_reducible refine (SFA.out _).mono ?_); rintro e w1 ⟨rfl, rfl⟩) | (go_at_call 15; (with_reducible refine (TA.out _ HS.out.tab).mono ?_); rintro e w5 ⟨rfl, hb5⟩; replace HS := Lib.hid (HS.out.step hb5); clear hb5) | (go_at_call 15; (with_reducible refine (TB.out _ HS.out.tab).mono ?_); rintro e w5 ⟨rfl, hb5⟩; replace HS := Lib.hid (HS.out.step hb5); clear hb5) | (go_at_call 19; (with_reducible refine (NX.out _).mono ?_); rintro e w1 ⟨rfl, rfl⟩) | (go_at_call 17; (with_reducible refine (LAN.out _).mono ?_); rintro e w1 ⟨rfl, rfl⟩) | (go_at_call 17; (with_reducible refine (LBN.out _).mono ?_); rintro e w1 ⟨rfl, rfl⟩))
  go_ret
  exact ⟨rfl, HS.out.old⟩

set_option maxHeartbeats 1000000 in
set_option maxRecDepth 100000 in
theorem runs_b1 (a b c f n : Nat) (T : ByteArray) (ea : Addr) (w : World) (hR : RunAt w w ea)
    (LAB : Hid (∀ w, Calls Tryd.prog 17 #[.float .f64 a, .float .f64 b] w fun e w' => e = .returned (.bool false) ∧ w = w'))
    (SAB : Hid (∀ w, Calls Tryd.prog 18 #[.float .f64 a, .float .f64 b] w fun e w' => e = .returned (.bool true) ∧ w = w'))
    (LBC : Hid (∀ w, Calls Tryd.prog 17 #[.float .f64 b, .float .f64 c] w fun e w' => e = .returned (.bool true) ∧ w = w'))
    (LAC : Hid (∀ w, Calls Tryd.prog 17 #[.float .f64 a, .float .f64 c] w fun e w' => e = .returned (.bool true) ∧ w = w'))
    (BA : Hid (∀ w, Calls Tryd.prog 12 #[.float .f64 a] w fun e w' => e = .returned (.int .u64 (f : Nat)) ∧ w = w'))
    (BB : Hid (∀ w, Calls Tryd.prog 12 #[.float .f64 b] w fun e w' => e = .returned (.int .u64 (f : Nat)) ∧ w = w'))
    (FA : Hid (∀ w, Calls Tryd.prog 11 #[.float .f64 a] w fun e w' => e = .returned (.float .f64 f) ∧ w = w'))
    (SFA : Hid (∀ w, Calls Tryd.prog 18 #[.float .f64 f, .float .f64 a] w fun e w' => e = .returned (.bool true) ∧ w = w'))
    (TA : Hid (∀ W, TabAt W → Calls Tryd.prog 15 #[.float .f64 a] W fun e w' => e = .returned (.string T) ∧ Below W.heap.size W w'))
    (TB : Hid (∀ W, TabAt W → Calls Tryd.prog 15 #[.float .f64 b] W fun e w' => e = .returned (.string T) ∧ Below W.heap.size W w'))
    (NX : Hid (∀ w, Calls Tryd.prog 19 #[.float .f64 a] w fun e w' => e = .returned (.tuple #[.float .f64 n, .nilIface]) ∧ w = w'))
    (LAN : Hid (∀ w, Calls Tryd.prog 17 #[.float .f64 a, .float .f64 n] w fun e w' => e = .returned (.bool true) ∧ w = w')) :
    Calls Tryd.prog 4 #[.agg #[.float .f64 a, .float .f64 b, .float .f64 c]] w fun e w' => e = .returned (.bool true) ∧ Below w.heap.size w w' := by
  have HA := Lib.hid alive_yes
  have HS0 := Lib.hid hR
  clear hR
  go_enter Tryd.func4, Tryd.ntmps4
  go_upto_region 3 with (go_at_call 7; refine (HA.out _).mono ?_; rintro e w1 ⟨rfl, rfl⟩)
  generalize hw1 : w.alloc (Obj.cells #[Value.float FloatKind.f64 a, Value.float FloatKind.f64 b, Value.float FloatKind.f64 c] 32) = w1
  have HS := Lib.hid (show RunAt w w1 ea by subst hw1; exact HS0.out.step ((Below.refl _ _).alloc (Nat.le_refl _) _))
  have hB : Blk w1 w.heap.size 32 #[.float .f64 a, .float .f64 b, .float .f64 c] := by subst hw1; exact Blk.new w _ _
  have HB := Lib.hid hB
  clear hw1 hB HS0
  generalize w.heap.size = ab at *
  refine region_all (C := Below w1.heap.size w1) (by kernel_rfl) (by kernel_rfl) (below_drew _) ?_
  have HC0 : Below w1.heap.size w1 w1 := Below.refl _ _
  open BigFrame in
  repeat (first | go_big_quiet_skip | (go_big_quiet_want; first | (apply quiet_one (hC := HC0); exact rfl; exact Nat.le_of_ble_eq_true rfl; (focus (intro w' hw'; have q0 := (HB.out.below hw').cell 0; have q1 := (HB.out.below hw').cell 1; have q2 := (HB.out.below hw').cell 2; simp at q0 q1 q2; go_big_quiet_op; with_reducible exact rfl)); go_big_quiet_on) | (go_big_quiet_op; apply Exists.intro; refine ⟨fun w' hw' => ?_, ?_⟩; (focus (have q0 := (HB.out.below hw').cell 0; have q1 := (HB.out.below hw').cell 1; have q2 := (HB.out.below hw').cell 2; simp at q0 q1 q2; fail)); go_big_quiet_on)))
  refine wpQuiet_nil ?_
  intro w6 hb6
  replace HS := Lib.hid (HS.out.step hb6)
  clear hb6 HC0 HB
  go_wp2_with (first | (go_at_call 7; refine (HA.out _).mono ?_; rintro e w1 ⟨rfl, rfl⟩) | (go_at_call 17; (with_reducible refine (LAB.out _).mono ?_); rintro e w1 ⟨rfl, rfl⟩) | (go_at_call 18; (with_reducible refine (SAB.out _).mono ?_); rintro e w1 ⟨rfl, rfl⟩) | (go_at_call 17; (with_reducible refine (LBC.out _).mono ?_); rintro e w1 ⟨rfl, rfl⟩) | (go_at_call 17; (with_reducible refine (LAC.out _).mono ?_); rintro e w1 ⟨rfl, rfl⟩) | (go_at_call 12; (with_reducible refine (BA.out _).mono ?_); rintro e w1 ⟨rfl, rfl⟩) | (go_at_call 12; (with_reducible refine (BB.out _).mono ?_); rintro e w1 ⟨rfl, rfl⟩) | (go_at_call 11; (with_reducible refine (FA.out _).mono ?_); rintro e w1 ⟨rfl, rfl⟩) | (go_at_call 18; (with_reducible refine (SFA.out _).mono ?_); rintro e w1 ⟨rfl, rfl⟩) | (go_at_call 15; (with_reducible refine (TA.out _ HS.out.tab).mono ?_); rintro e w5 ⟨rfl, hb5⟩; replace HS := Lib.hid (HS.out.step hb5); clear hb5) | (go_at_call 15; (with_reducible refine (TB.out _ HS.out.tab).mono ?_); rintro e w5 ⟨rfl, hb5⟩; replace HS := Lib.hid (HS.out.step hb5); clear hb5) | (go_at_call 19; (with_reducible refine (NX.out _).mono ?_); rintro e w1 ⟨rfl, rfl⟩) | (go_at_call 17; (with_reducible refine (LAN.out _).mono ?_); rintro e w1 ⟨rfl, rfl⟩))
  go_ret
  exact ⟨rfl, HS.out.old⟩

set_option maxHeartbeats 1000000 in
set_option maxRecDepth 100000 in
theorem runs_b2 (a b c f n : Nat) (T : ByteArray) (ea : Addr) (w : World) (hR : RunAt w w ea)
    (LAB : Hid (∀ w, Calls Tryd.prog 17 #[.float .f64 a, .float .f64 b] w fun e w' => e = .returned (.bool false) ∧ w = w'))
    (SAB : Hid (∀ w, Calls Tryd.prog 18 #[.float .f64 a, .float .f64 b] w fun e w' => e = .returned (.bool true) ∧ w = w'))
    (LBC : Hid (∀ w, Calls Tryd.prog 17 #[.float .f64 b, .float .f64 c] w fun e w' => e = .returned (.bool false) ∧ w = w'))
    (LAC : Hid (∀ w, Calls Tryd.prog 17 #[.float .f64 a, .float .f64 c] w fun e w' => e = .returned (.bool false) ∧ w = w'))
    (BA : Hid (∀ w, Calls Tryd.prog 12 #[.float .f64 a] w fun e w' => e = .returned (.int .u64 (f : Nat)) ∧ w = w'))
    (BB : Hid (∀ w, Calls Tryd.prog 12 #[.float .f64 b] w fun e w' => e = .returned (.int .u64 (f : Nat)) ∧ w = w'))
    (FA : Hid (∀ w, Calls Tryd.prog 11 #[.float .f64 a] w fun e w' => e = .returned (.float .f64 f) ∧ w = w'))
    (SFA : Hid (∀ w, Calls Tryd.prog 18 #[.float .f64 f, .float .f64 a] w fun e w' => e = .returned (.bool true) ∧ w = w'))
    (TA : Hid (∀ W, TabAt W → Calls Tryd.prog 15 #[.float .f64 a] W fun e w' => e = .returned (.string T) ∧ Below W.heap.size W w'))
    (TB : Hid (∀ W, TabAt W → Calls Tryd.prog 15 #[.float .f64 b] W fun e w' => e = .returned (.string T) ∧ Below W.heap.size W w'))
    (NX : Hid (∀ w, Calls Tryd.prog 19 #[.float .f64 a] w fun e w' => e = .returned (.tuple #[.float .f64 n, .nilIface]) ∧ w = w'))
    (LAN : Hid (∀ w, Calls Tryd.prog 17 #[.float .f64 a, .float .f64 n] w fun e w' => e = .returned (.bool true) ∧ w = w')) :
    Calls Tryd.prog 4 #[.agg #[.float .f64 a, .float .f64 b, .float .f64 c]] w fun e w' => e = .returned (.bool true) ∧ Below w.heap.size w w' := by
  have HA := Lib.hid alive_yes
  have HS0 := Lib.hid hR
  clear hR
  go_enter Tryd.func4, Tryd.ntmps4
  go_upto_region 3 with (go_at_call 7; refine (HA.out _).mono ?_; rintro e w1 ⟨rfl, rfl⟩)
  generalize hw1 : w.alloc (Obj.cells #[Value.float FloatKind.f64 a, Value.float FloatKind.f64 b, Value.float FloatKind.f64 c] 32) = w1
  have HS := Lib.hid (show RunAt w w1 ea by subst hw1; exact HS0.out.step ((Below.refl _ _).alloc (Nat.le_refl _) _))
  have hB : Blk w1 w.heap.size 32 #[.float .f64 a, .float .f64 b, .float .f64 c] := by subst hw1; exact Blk.new w _ _
  have HB := Lib.hid hB
  clear hw1 hB HS0
  generalize w.heap.size = ab at *
  refine region_all (C := Below w1.heap.size w1) (by kernel_rfl) (by kernel_rfl) (below_drew _) ?_
  have HC0 : Below w1.heap.size w1 w1 := Below.refl _ _
  open BigFrame in
  repeat (first | go_big_quiet_skip | (go_big_quiet_want; first | (apply quiet_one (hC := HC0); exact rfl; exact Nat.le_of_ble_eq_true rfl; (focus (intro w' hw'; have q0 := (HB.out.below hw').cell 0; have q1 := (HB.out.below hw').cell 1; have q2 := (HB.out.below hw').cell 2; simp at q0 q1 q2; go_big_quiet_op; with_reducible exact rfl)); go_big_quiet_on) | (go_big_quiet_op; apply Exists.intro; refine ⟨fun w' hw' => ?_, ?_⟩; (focus (have q0 := (HB.out.below hw').cell 0; have q1 := (HB.out.below hw').cell 1; have q2 := (HB.out.below hw').cell 2; simp at q0 q1 q2; fail)); go_big_quiet_on)))
  refine wpQuiet_nil ?_
  intro w6 hb6
  replace HS := Lib.hid (HS.out.step hb6)
  clear hb6 HC0 HB
  go_wp2_with (first | (go_at_call 7; refine (HA.out _).mono ?_; rintro e w1 ⟨rfl, rfl⟩) | (go_at_call 17; (with_reducible refine (LAB.out _).mono ?_); rintro e w1 ⟨rfl, rfl⟩) | (go_at_call 18; (with_reducible refine (SAB.out _).mono ?_); rintro e w1 ⟨rfl, rfl⟩) | (go_at_call 17; (with_reducible refine (LBC.out _).mono ?_); rintro e w1 ⟨rfl, rfl⟩) | (go_at_call 17; (with_reducible refine (LAC.out _).mono ?_); rintro e w1 ⟨rfl, rfl⟩) | (go_at_call 12; (with_reducible refine (BA.out _).mono ?_); rintro e w1 ⟨rfl, rfl⟩) | (go_at_call 12; (with_reducible refine (BB.out _).mono ?_); rintro e w1 ⟨rfl, rfl⟩) | (go_at_call 11; (with_reducible refine (FA.out _).mono ?_); rintro e w1 ⟨rfl, rfl⟩) | (go_at_call 18; (with_reducible refine (SFA.out _).mono ?_); rintro e w1 ⟨rfl, rfl⟩) | (go_at_call 15; (with_reducible refine (TA.out _ HS.out.tab).mono ?_); rintro e w5 ⟨rfl, hb5⟩; replace HS := Lib.hid (HS.out.step hb5); clear hb5) | (go_at_call 15; (with_reducible refine (TB.out _ HS.out.tab).mono ?_); rintro e w5 ⟨rfl, hb5⟩; replace HS := Lib.hid (HS.out.step hb5); clear hb5) | (go_at_call 19; (with_reducible refine (NX.out _).mono ?_); rintro e w1 ⟨rfl, rfl⟩) | (go_at_call 17; (with_reducible refine (LAN.out _).mono ?_); rintro e w1 ⟨rfl, rfl⟩))
  go_ret
  exact ⟨rfl, HS.out.old⟩

set_option maxHeartbeats 1000000 in
set_option maxRecDepth 100000 in
theorem runs_c (a b c f f2 n : Nat) (T T2 : ByteArray) (ea : Addr) (w : World) (hR : RunAt w w ea)
    (LAB : Hid (∀ w, Calls Tryd.prog 17 #[.float .f64 a, .float .f64 b] w fun e w' => e = .returned (.bool false) ∧ w = w'))
    (SAB : Hid (∀ w, Calls Tryd.prog 18 #[.float .f64 a, .float .f64 b] w fun e w' => e = .returned (.bool false) ∧ w = w'))
    (BA : Hid (∀ w, Calls Tryd.prog 12 #[.float .f64 a] w fun e w' => e = .returned (.int .u64 (f : Nat)) ∧ w = w'))
    (BB : Hid (∀ w, Calls Tryd.prog 12 #[.float .f64 b] w fun e w' => e = .returned (.int .u64 (f2 : Nat)) ∧ w = w'))
    (FA : Hid (∀ w, Calls Tryd.prog 11 #[.float .f64 a] w fun e w' => e = .returned (.float .f64 f) ∧ w = w'))
    (SFA : Hid (∀ w, Calls Tryd.prog 18 #[.float .f64 f, .float .f64 a] w fun e w' => e = .returned (.bool true) ∧ w = w'))
    (TA : Hid (∀ W, TabAt W → Calls Tryd.prog 15 #[.float .f64 a] W fun e w' => e = .returned (.string T) ∧ Below W.heap.size W w'))
    (TB : Hid (∀ W, TabAt W → Calls Tryd.prog 15 #[.float .f64 b] W fun e w' => e = .returned (.string T2) ∧ Below W.heap.size W w'))
    (tne : (T.toList == T2.toList) = false)
    (fne : ((f : Int) == (f2 : Int)) = false)
    (NX : Hid (∀ w, Calls Tryd.prog 19 #[.float .f64 a] w fun e w' => e = .returned (.tuple #[.float .f64 n, .nilIface]) ∧ w = w'))
    (LAN : Hid (∀ w, Calls Tryd.prog 17 #[.float .f64 a, .float .f64 n] w fun e w' => e = .returned (.bool true) ∧ w = w')) :
    Calls Tryd.prog 4 #[.agg #[.float .f64 a, .float .f64 b, .float .f64 c]] w fun e w' => e = .returned (.bool true) ∧ Below w.heap.size w w' := by
  have HA := Lib.hid alive_yes
  have HS0 := Lib.hid hR
  clear hR
  go_enter Tryd.func4, Tryd.ntmps4
  go_upto_region 3 with (go_at_call 7; refine (HA.out _).mono ?_; rintro e w1 ⟨rfl, rfl⟩)
  generalize hw1 : w.alloc (Obj.cells #[Value.float FloatKind.f64 a, Value.float FloatKind.f64 b, Value.float FloatKind.f64 c] 32) = w1
  have HS := Lib.hid (show RunAt w w1 ea by subst hw1; exact HS0.out.step ((Below.refl _ _).alloc (Nat.le_refl _) _))
  have hB : Blk w1 w.heap.size 32 #[.float .f64 a, .float .f64 b, .float .f64 c] := by subst hw1; exact Blk.new w _ _
  have HB := Lib.hid hB
  clear hw1 hB HS0
  generalize w.heap.size = ab at *
  refine region_all (C := Below w1.heap.size w1) (by kernel_rfl) (by kernel_rfl) (below_drew _) ?_
  have HC0 : Below w1.heap.size w1 w1 := Below.refl _ _
  open BigFrame in
  repeat (first | go_big_quiet_skip | (go_big_quiet_want; first | (apply quiet_one (hC := HC0); exact rfl; exact Nat.le_of_ble_eq_true rfl; (focus (intro w' hw'; have q0 := (HB.out.below hw').cell 0; have q1 := (HB.out.below hw').cell 1; have q2 := (HB.out.below hw').cell 2; simp at q0 q1 q2; go_big_quiet_op; with_reducible exact rfl)); go_big_quiet_on) | (go_big_quiet_op; apply Exists.intro; refine ⟨fun w' hw' => ?_, ?_⟩; (focus (have q0 := (HB.out.below hw').cell 0; have q1 := (HB.out.below hw').cell 1; have q2 := (HB.out.below hw').cell 2; simp at q0 q1 q2; fail)); go_big_quiet_on)))
  refine wpQuiet_nil ?_
  intro w6 hb6
  replace HS := Lib.hid (HS.out.step hb6)
  clear hb6 HC0 HB
  go_wp2_with (first | (go_at_call 7; refine (HA.out _).mono ?_; rintro e w1 ⟨rfl, rfl⟩) | (go_at_call 17; (with_reducible refine (LAB.out _).mono ?_); rintro e w1 ⟨rfl, rfl⟩) | (go_at_call 18; (with_reducible refine (SAB.out _).mono ?_); rintro e w1 ⟨rfl, rfl⟩) | (go_at_call 12; (with_reducible refine (BA.out _).mono ?_); rintro e w1 ⟨rfl, rfl⟩) | (go_at_call 12; (with_reducible refine (BB.out _).mono ?_); rintro e w1 ⟨rfl, rfl⟩) | (go_at_call 11; (with_reducible refine (FA.out _).mono ?_); rintro e w1 ⟨rfl, rfl⟩) | (go_at_call 18; (with_reducible refine (SFA.out _).mono ?_); rintro e w1 ⟨rfl, rfl⟩) | (go_at_call 15; (with_reducible refine (TA.out _ HS.out.tab).mono ?_); rintro e w5 ⟨rfl, hb5⟩; replace HS := Lib.hid (HS.out.step hb5); clear hb5) | (go_at_call 15; (with_reducible refine (TB.out _ HS.out.tab).mono ?_); rintro e w5 ⟨rfl, hb5⟩; replace HS := Lib.hid (HS.out.step hb5); clear hb5) | (go_at_call 19; (with_reducible refine (NX.out _).mono ?_); rintro e w1 ⟨rfl, rfl⟩) | (go_at_call 17; (with_reducible refine (LAN.out _).mono ?_); rintro e w1 ⟨rfl, rfl⟩))
  go_ret
  exact ⟨rfl, HS.out.old⟩

set_option maxHeartbeats 1000000 in
set_option maxRecDepth 100000 in
theorem runs_nb (a b c f : Nat) (T : ByteArray) (ea : Addr) (w : World) (hR : RunAt w w ea)
    (LAB : Hid (∀ w, Calls Tryd.prog 17 #[.float .f64 a, .float .f64 b] w fun e w' => e = .returned (.bool false) ∧ w = w'))
    (SAB : Hid (∀ w, Calls Tryd.prog 18 #[.float .f64 a, .float .f64 b] w fun e w' => e = .returned (.bool true) ∧ w = w'))
    (LBC : Hid (∀ w, Calls Tryd.prog 17 #[.float .f64 b, .float .f64 c] w fun e w' => e = .returned (.bool false) ∧ w = w'))
    (LAC : Hid (∀ w, Calls Tryd.prog 17 #[.float .f64 a, .float .f64 c] w fun e w' => e = .returned (.bool false) ∧ w = w'))
    (BA : Hid (∀ w, Calls Tryd.prog 12 #[.float .f64 a] w fun e w' => e = .returned (.int .u64 (f : Nat)) ∧ w = w'))
    (BB : Hid (∀ w, Calls Tryd.prog 12 #[.float .f64 b] w fun e w' => e = .returned (.int .u64 (f : Nat)) ∧ w = w'))
    (FA : Hid (∀ w, Calls Tryd.prog 11 #[.float .f64 a] w fun e w' => e = .returned (.float .f64 f) ∧ w = w'))
    (SFA : Hid (∀ w, Calls Tryd.prog 18 #[.float .f64 f, .float .f64 a] w fun e w' => e = .returned (.bool true) ∧ w = w'))
    (TA : Hid (∀ W, TabAt W → Calls Tryd.prog 15 #[.float .f64 a] W fun e w' => e = .returned (.string T) ∧ Below W.heap.size W w'))
    (TB : Hid (∀ W, TabAt W → Calls Tryd.prog 15 #[.float .f64 b] W fun e w' => e = .returned (.string T) ∧ Below W.heap.size W w'))
    (na : (FloatKind.f64.format.order a a != some .eq) = true)
    (NX : Hid (∀ W, ErrAt W 1 ea → Calls Tryd.prog 19 #[.float .f64 a] W fun e w' => e = .returned (.tuple #[.float .f64 0, .iface 104 (.pointer (some ea))]) ∧ Below W.heap.size W w')) :
    Calls Tryd.prog 4 #[.agg #[.float .f64 a, .float .f64 b, .float .f64 c]] w fun e w' => e = .returned (.bool true) ∧ Below w.heap.size w w' := by
  have HA := Lib.hid alive_yes
  have HS0 := Lib.hid hR
  clear hR
  go_enter Tryd.func4, Tryd.ntmps4
  go_upto_region 3 with (go_at_call 7; refine (HA.out _).mono ?_; rintro e w1 ⟨rfl, rfl⟩)
  generalize hw1 : w.alloc (Obj.cells #[Value.float FloatKind.f64 a, Value.float FloatKind.f64 b, Value.float FloatKind.f64 c] 32) = w1
  have HS := Lib.hid (show RunAt w w1 ea by subst hw1; exact HS0.out.step ((Below.refl _ _).alloc (Nat.le_refl _) _))
  have hB : Blk w1 w.heap.size 32 #[.float .f64 a, .float .f64 b, .float .f64 c] := by subst hw1; exact Blk.new w _ _
  have HB := Lib.hid hB
  clear hw1 hB HS0
  generalize w.heap.size = ab at *
  refine region_all (C := Below w1.heap.size w1) (by kernel_rfl) (by kernel_rfl) (below_drew _) ?_
  have HC0 : Below w1.heap.size w1 w1 := Below.refl _ _
  open BigFrame in
  repeat (first | go_big_quiet_skip | (go_big_quiet_want; first | (apply quiet_one (hC := HC0); exact rfl; exact Nat.le_of_ble_eq_true rfl; (focus (intro w' hw'; have q0 := (HB.out.below hw').cell 0; have q1 := (HB.out.below hw').cell 1; have q2 := (HB.out.below hw').cell 2; simp at q0 q1 q2; go_big_quiet_op; with_reducible exact rfl)); go_big_quiet_on) | (go_big_quiet_op; apply Exists.intro; refine ⟨fun w' hw' => ?_, ?_⟩; (focus (have q0 := (HB.out.below hw').cell 0; have q1 := (HB.out.below hw').cell 1; have q2 := (HB.out.below hw').cell 2; simp at q0 q1 q2; fail)); go_big_quiet_on)))
  refine wpQuiet_nil ?_
  intro w6 hb6
  replace HS := Lib.hid (HS.out.step hb6)
  clear hb6 HC0 HB
  go_wp2_with (first | (go_at_call 7; refine (HA.out _).mono ?_; rintro e w1 ⟨rfl, rfl⟩) | (go_at_call 17; (with_reducible refine (LAB.out _).mono ?_); rintro e w1 ⟨rfl, rfl⟩) | (go_at_call 18; (with_reducible refine (SAB.out _).mono ?_); rintro e w1 ⟨rfl, rfl⟩) | (go_at_call 17; (with_reducible refine (LBC.out _).mono ?_); rintro e w1 ⟨rfl, rfl⟩) | (go_at_call 17; (with_reducible refine (LAC.out _).mono ?_); rintro e w1 ⟨rfl, rfl⟩) | (go_at_call 12; (with_reducible refine (BA.out _).mono ?_); rintro e w1 ⟨rfl, rfl⟩) | (go_at_call 12; (with_reducible refine (BB.out _).mono ?_); rintro e w1 ⟨rfl, rfl⟩) | (go_at_call 11; (with_reducible refine (FA.out _).mono ?_); rintro e w1 ⟨rfl, rfl⟩) | (go_at_call 18; (with_reducible refine (SFA.out _).mono ?_); rintro e w1 ⟨rfl, rfl⟩) | (go_at_call 15; (with_reducible refine (TA.out _ HS.out.tab).mono ?_); rintro e w5 ⟨rfl, hb5⟩; replace HS := Lib.hid (HS.out.step hb5); clear hb5) | (go_at_call 15; (with_reducible refine (TB.out _ HS.out.tab).mono ?_); rintro e w5 ⟨rfl, hb5⟩; replace HS := Lib.hid (HS.out.step hb5); clear hb5) | (go_at_call 19; (with_reducible refine (NX.out _ HS.out.err).mono ?_); rintro e w5 ⟨rfl, hb5⟩; replace HS := Lib.hid (HS.out.step hb5); clear hb5))
  go_ret
  exact ⟨rfl, HS.out.old⟩

set_option maxHeartbeats 1000000 in
set_option maxRecDepth 100000 in
theorem runs_nc (a b c f f2 : Nat) (T T2 : ByteArray) (ea : Addr) (w : World) (hR : RunAt w w ea)
    (LAB : Hid (∀ w, Calls Tryd.prog 17 #[.float .f64 a, .float .f64 b] w fun e w' => e = .returned (.bool false) ∧ w = w'))
    (SAB : Hid (∀ w, Calls Tryd.prog 18 #[.float .f64 a, .float .f64 b] w fun e w' => e = .returned (.bool false) ∧ w = w'))
    (BA : Hid (∀ w, Calls Tryd.prog 12 #[.float .f64 a] w fun e w' => e = .returned (.int .u64 (f : Nat)) ∧ w = w'))
    (BB : Hid (∀ w, Calls Tryd.prog 12 #[.float .f64 b] w fun e w' => e = .returned (.int .u64 (f2 : Nat)) ∧ w = w'))
    (FA : Hid (∀ w, Calls Tryd.prog 11 #[.float .f64 a] w fun e w' => e = .returned (.float .f64 f) ∧ w = w'))
    (SFA : Hid (∀ w, Calls Tryd.prog 18 #[.float .f64 f, .float .f64 a] w fun e w' => e = .returned (.bool true) ∧ w = w'))
    (TA : Hid (∀ W, TabAt W → Calls Tryd.prog 15 #[.float .f64 a] W fun e w' => e = .returned (.string T) ∧ Below W.heap.size W w'))
    (TB : Hid (∀ W, TabAt W → Calls Tryd.prog 15 #[.float .f64 b] W fun e w' => e = .returned (.string T2) ∧ Below W.heap.size W w'))
    (tne : (T.toList == T2.toList) = false)
    (fne : ((f : Int) == (f2 : Int)) = false)
    (na : (FloatKind.f64.format.order a a != some .eq) = true)
    (NX : Hid (∀ W, ErrAt W 1 ea → Calls Tryd.prog 19 #[.float .f64 a] W fun e w' => e = .returned (.tuple #[.float .f64 0, .iface 104 (.pointer (some ea))]) ∧ Below W.heap.size W w')) :
    Calls Tryd.prog 4 #[.agg #[.float .f64 a, .float .f64 b, .float .f64 c]] w fun e w' => e = .returned (.bool true) ∧ Below w.heap.size w w' := by
  have HA := Lib.hid alive_yes
  have HS0 := Lib.hid hR
  clear hR
  go_enter Tryd.func4, Tryd.ntmps4
  go_upto_region 3 with (go_at_call 7; refine (HA.out _).mono ?_; rintro e w1 ⟨rfl, rfl⟩)
  generalize hw1 : w.alloc (Obj.cells #[Value.float FloatKind.f64 a, Value.float FloatKind.f64 b, Value.float FloatKind.f64 c] 32) = w1
  have HS := Lib.hid (show RunAt w w1 ea by subst hw1; exact HS0.out.step ((Below.refl _ _).alloc (Nat.le_refl _) _))
  have hB : Blk w1 w.heap.size 32 #[.float .f64 a, .float .f64 b, .float .f64 c] := by subst hw1; exact Blk.new w _ _
  have HB := Lib.hid hB
  clear hw1 hB HS0
  generalize w.heap.size = ab at *
  refine region_all (C := Below w1.heap.size w1) (by kernel_rfl) (by kernel_rfl) (below_drew _) ?_
  have HC0 : Below w1.heap.size w1 w1 := Below.refl _ _
  open BigFrame in
  repeat (first | go_big_quiet_skip | (go_big_quiet_want; first | (apply quiet_one (hC := HC0); exact rfl; exact Nat.le_of_ble_eq_true rfl; (focus (intro w' hw'; have q0 := (HB.out.below hw').cell 0; have q1 := (HB.out.below hw').cell 1; have q2 := (HB.out.below hw').cell 2; simp at q0 q1 q2; go_big_quiet_op; with_reducible exact rfl)); go_big_quiet_on) | (go_big_quiet_op; apply Exists.intro; refine ⟨fun w' hw' => ?_, ?_⟩; (focus (have q0 := (HB.out.below hw').cell 0; have q1 := (HB.out.below hw').cell 1; have q2 := (HB.out.below hw').cell 2; simp at q0 q1 q2; fail)); go_big_quiet_on)))
  refine wpQuiet_nil ?_
  intro w6 hb6
  replace HS := Lib.hid (HS.out.step hb6)
  clear hb6 HC0 HB
  go_wp2_with (first | (go_at_call 7; refine (HA.out _).mono ?_; rintro e w1 ⟨rfl, rfl⟩) | (go_at_call 17; (with_reducible refine (LAB.out _).mono ?_); rintro e w1 ⟨rfl, rfl⟩) | (go_at_call 18; (with_reducible refine (SAB.out _).mono ?_); rintro e w1 ⟨rfl, rfl⟩) | (go_at_call 12; (with_reducible refine (BA.out _).mono ?_); rintro e w1 ⟨rfl, rfl⟩) | (go_at_call 12; (with_reducible refine (BB.out _).mono ?_); rintro e w1 ⟨rfl, rfl⟩) | (go_at_call 11; (with_reducible refine (FA.out _).mono ?_); rintro e w1 ⟨rfl, rfl⟩) | (go_at_call 18; (with_reducible refine (SFA.out _).mono ?_); rintro e w1 ⟨rfl, rfl⟩) | (go_at_call 15; (with_reducible refine (TA.out _ HS.out.tab).mono ?_); rintro e w5 ⟨rfl, hb5⟩; replace HS := Lib.hid (HS.out.step hb5); clear hb5) | (go_at_call 15; (with_reducible refine (TB.out _ HS.out.tab).mono ?_); rintro e w5 ⟨rfl, hb5⟩; replace HS := Lib.hid (HS.out.step hb5); clear hb5) | (go_at_call 19; (with_reducible refine (NX.out _ HS.out.err).mono ?_); rintro e w5 ⟨rfl, hb5⟩; replace HS := Lib.hid (HS.out.step hb5); clear hb5))
  go_ret
  exact ⟨rfl, HS.out.old⟩

theorem runs_walk (a b c : Nat) (w : World) (ea : Addr) (hT : TabAt w) (hE : ErrAt w 1 ea) (ha' : a < 2 ^ 64) (hb' : b < 2 ^ 64) (hc' : c < 2 ^ 64) :
    Calls Tryd.prog 4 #[.agg #[.float .f64 a, .float .f64 b, .float .f64 c]] w fun e w' => e = .returned (.bool true) ∧ Below w.heap.size w w' := by
  have ha : a < 18446744073709551616 := ha'
  have hb : b < 18446744073709551616 := hb'
  have hc : c < 18446744073709551616 := hc'
  have hR : RunAt w w ea := ⟨Below.refl _ _, hT, hE⟩
  have hfl := form_lt a ha
  have SFA := same_v (form a) a true hfl ha (by rw [form_form]; simp)
  have BA := Lib.hid (bits_c a ha)
  have BB := Lib.hid (bits_c b hb)
  have FA := Lib.hid (form_c a ha)
  have TA := Lib.hid (fun W hT => text_c a ha W hT)
  have TB := Lib.hid (fun W hT => text_c b hb W hT)
  have na := nn_of a ha
  have sk := same_key a b ha hb
  have st := text_same a b ha hb
  have tne : keyW a ≠ keyW b → ((textW a).toList == (textW b).toList) = false := fun h => by
    have : ¬ (textW a).toList = (textW b).toList := fun e => h (sk.1 (st.1 (by rw [ByteArray.toList_eq, ByteArray.toList_eq] at e; exact WideShapes.bytes_inj e)))
    simpa using this
  have fne : keyW a ≠ keyW b → ((form a : Int) == (form b : Int)) = false := fun h => by
    have : form a ≠ form b := fun e => h (sk.1 e)
    simp; omega
  have BB' : keyW a = keyW b → Hid (∀ w, Calls Tryd.prog 12 #[.float .f64 b] w fun e w' => e = .returned (.int .u64 (form a : Nat)) ∧ w = w') := fun h => by rw [sk.2 h]; exact BB
  have TB' : keyW a = keyW b → Hid (∀ W, TabAt W → Calls Tryd.prog 15 #[.float .f64 b] W fun e w' => e = .returned (.string (textW a)) ∧ Below W.heap.size W w') := fun h => by rw [st.2 (sk.2 h)]; exact TB
  by_cases hna : nanW a = true
  · rw [hna] at na
    have ka := key_nan a hna
    have NX := Lib.hid (fun W hE => next_nan a ha hna ea W hE)
    by_cases hnb : nanW b = true
    · have kb := key_nan b hnb
      have kc : keyW c ≤ 18444492273895866368 := by
        by_cases hnc : nanW c = true
        · have := key_nan c hnc; omega
        · have := key_num c hc (by simpa using hnc); omega
      exact runs_nb a b c (form a) (textW a) ea w hR (less_v a b false ha hb (by simp; omega)) (same_v a b true ha hb (by simp; rw [sk]; omega)) (less_v b c false hb hc (by simp; omega)) (less_v a c false ha hc (by simp; omega)) BA (BB' (by omega)) FA SFA TA (TB' (by omega)) na NX
    · have kb := key_num b hb (by simpa using hnb)
      exact runs_nc a b c (form a) (form b) (textW a) (textW b) ea w hR (less_v a b false ha hb (by simp; omega)) (same_v a b false ha hb (by simp; rw [sk]; omega)) BA BB FA SFA TA TB (tne (by omega)) (fne (by omega)) na NX
  · have hna' : nanW a = false := by simpa using hna
    obtain ⟨n, hn, hk1, hk2, hX⟩ := next_of a b ha hb hna'
    have NX := Lib.hid hX
    have LAN := less_v a n true ha hn (by simp; omega)
    rcases Nat.lt_trichotomy (keyW a) (keyW b) with h | h | h
    · have LAB := less_v a b true ha hb (by simp; omega)
      have SAB := same_v a b false ha hb (by simp; rw [sk]; omega)
      have LBN := less_v b n false hb hn (by simp; omega)
      by_cases h2 : keyW b < keyW c
      · exact runs_a1 a b c (form a) (form b) n (textW a) (textW b) ea w hR LAB SAB (less_v b c true hb hc (by simp; omega)) (less_v a c true ha hc (by simp; omega)) BA BB FA SFA TA TB (tne (by omega)) (fne (by omega)) NX LAN LBN
      · exact runs_a2 a b c (form a) (form b) n (textW a) (textW b) ea w hR LAB SAB (less_v b c false hb hc (by simp; omega)) BA BB FA SFA TA TB (tne (by omega)) (fne (by omega)) NX LAN LBN
    · have LAB := less_v a b false ha hb (by simp; omega)
      have SAB := same_v a b true ha hb (by simp; rw [sk]; omega)
      by_cases h2 : keyW b < keyW c
      · exact runs_b1 a b c (form a) n (textW a) ea w hR LAB SAB (less_v b c true hb hc (by simp; omega)) (less_v a c true ha hc (by simp; omega)) BA (BB' h) FA SFA TA (TB' h) NX LAN
      · exact runs_b2 a b c (form a) n (textW a) ea w hR LAB SAB (less_v b c false hb hc (by simp; omega)) (less_v a c false ha hc (by simp; omega)) BA (BB' h) FA SFA TA (TB' h) NX LAN
    · exact runs_c a b c (form a) (form b) n (textW a) (textW b) ea w hR (less_v a b false ha hb (by simp; omega)) (same_v a b false ha hb (by simp; rw [sk]; omega)) BA BB FA SFA TA TB (tne (by omega)) (fne (by omega)) NX LAN
end Go.Proofs.YtnakfnkmdiekhaaDoor
