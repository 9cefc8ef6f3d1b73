/-
  Package cursor by contracts.
-/
import Derived.Test.YtacdbgoffepaaaaDoorSplit
import Derived.Test.YtacdbgoffepaaaaDoorOrders
namespace Go.Proofs.YtacdbgoffepaaaaDoor
open Go.RowKit

/-- All blocks but one are as they were. -/
structure But (b : Nat) (w w' : World) : Prop where
  os : w'.os = w.os
  tape : w'.tape = w.tape
  output : w'.output = w.output
  size : w.heap.size ≤ w'.heap.size
  block : ∀ k, k < w.heap.size → k ≠ b → w'.heap[k]? = w.heap[k]?
section
variable {b B : Nat} {w w' w1 w2 : World}
theorem But.refl (b : Nat) (w : World) : But b w w := ⟨rfl, rfl, rfl, Nat.le_refl _, fun _ _ _ => rfl⟩
theorem But.of (h : Below w.heap.size w w') : But b w w' := ⟨h.os, h.tape, h.output, h.size, fun k hk _ => h.block k hk⟩
theorem But.trans (h : But b w w1) (k : But b w1 w2) : But b w w2 :=
  ⟨k.os.trans h.os, k.tape.trans h.tape, k.output.trans h.output, Nat.le_trans h.size k.size, fun i hi hne => (k.block i (Nat.lt_of_lt_of_le hi h.size) hne).trans (h.block i hi hne)⟩
theorem But.set_ (h : But b w w1) (i : Nat) (u : Value) : But b w (w1.setCell ⟨b, i, none⟩ u) :=
  h.trans ⟨rfl, rfl, rfl, by simp [World.setCell], fun k _ hne => Below.heap_setCell _ _ _ _ hne⟩
theorem But.below (h : But b w w') (hb : B ≤ b) (hB : B ≤ w.heap.size) : Below B w w' :=
  ⟨h.os, h.tape, h.output, h.size, fun k hk => h.block k (by omega) (by omega)⟩
theorem Blk.but {g : Nat} {t : TypeId} {cs : Array Value} (h : Blk w g t cs) (hb : But b w w') (hg : g ≠ b) : Blk w' g t cs := (hb.block g h.lt hg).trans h
theorem ErrAt.but {g : Nat} {a : Addr} (h : ErrAt w g a) (hb : But b w w') (hg : g ≠ b) : ErrAt w' g a := by
  have hl := block_lt_of_cell h
  exact (World.cell?_of_block (w := w) (hb.block g hl hg)).trans h
end

/-- A cursor in a block: where it stands, and whether it is done. -/
def CurAt (w : World) (b : Nat) (h k : Int) (d : Bool) : Prop := Blk w b 98 #[.int .u64 k, .int .u64 0, .int .u64 h, .bool d]
section
variable {w w' : World} {b : Nat} {h k : Int} {d : Bool}
theorem CurAt.cells (H : CurAt w b h k d) : w.cell? ⟨b, 0, none⟩ = some (.int .u64 k) ∧ w.cell? ⟨b, 1, none⟩ = some (.int .u64 0) ∧ w.cell? ⟨b, 2, none⟩ = some (.int .u64 h) ∧ w.cell? ⟨b, 3, none⟩ = some (.bool d) :=
  ⟨Blk.cell H 0, Blk.cell H 1, Blk.cell H 2, Blk.cell H 3⟩
theorem CurAt.frees (H : CurAt w b h k d) : w.frozen? ⟨b, 0, none⟩ = false ∧ w.frozen? ⟨b, 1, none⟩ = false ∧ w.frozen? ⟨b, 2, none⟩ = false ∧ w.frozen? ⟨b, 3, none⟩ = false :=
  ⟨Blk.free H 0, Blk.free H 1, Blk.free H 2, Blk.free H 3⟩
theorem CurAt.below (H : CurAt w b h k d) (hb : Below w.heap.size w w') : CurAt w' b h k d := Blk.below H hb
end

theorem cur_new (w : World) : Calls Tryd.prog 21 #[] w fun e w' => e = .returned (.pointer (some ⟨w.heap.size, 0, none⟩)) ∧ CurAt w' w.heap.size 0 0 false ∧ Below w.heap.size w w' := by
  go_enter Tryd.func21, Tryd.ntmps21
  go_wp2
  go_ret
  exact ⟨rfl, Blk.new _ _ _, (Below.refl _ _).alloc (Nat.le_refl _) _⟩

theorem cur_done (b : Nat) (h k : Int) (d : Bool) (w : World) (H : CurAt w b h k d) : Calls Tryd.prog 34 #[.pointer (some ⟨b, 0, none⟩)] w fun e w' => e = .returned (.bool d) ∧ w = w' := by
  obtain ⟨c0, c1, c2, c3⟩ := H.cells
  clear H
  go_enter Tryd.func34, Tryd.ntmps34
  go_wp2
  go_ret
  exact ⟨rfl, rfl⟩

theorem cur_at (b : Nat) (h k : Int) (d : Bool) (w : World) (H : CurAt w b h k d) : Calls Tryd.prog 37 #[.pointer (some ⟨b, 0, none⟩)] w fun e w' => e = .returned (.tuple #[.int .u64 h, .int .u64 k]) ∧ Below w.heap.size w w' := by
  obtain ⟨c0, c1, c2, c3⟩ := H.cells
  clear H
  go_enter Tryd.func37, Tryd.ntmps37
  go_wp2
  go_quiet (fail)
  go_wp2
  go_ret2
  exact ⟨rfl, below_drewN (Below.refl _ _) _⟩

set_option maxHeartbeats 400000 in
theorem cur_behind (b : Nat) (h k : Int) (d : Bool) (ek ev eh : Int) (w : World) (H : CurAt w b h k d) : Calls Tryd.prog 25 #[.pointer (some ⟨b, 0, none⟩), entV ek ev eh] w fun e w' => e = .returned (.bool (d || lessB eh ek h k)) ∧ Below w.heap.size w w' := by
  have HL := Lib.hid (fun W => less_any ek ev eh k 0 h W)
  generalize lessB eh ek h k = l at *
  go_enter Tryd.func25, Tryd.ntmps25
  go_upto_region 1 with fail
  generalize hw1 : w.alloc (Obj.cells #[Value.int IntKind.u64 ek, Value.int IntKind.u64 ev, Value.int IntKind.u64 eh] 42) = w1
  have hB1 : Below w.heap.size w w1 := by subst hw1; exact (Below.refl _ _).alloc (Nat.le_refl _) _
  have hE1 : EntAt w1 w.heap.size ek ev eh := by subst hw1; exact Blk.new w _ _
  have HX := Lib.hid (And.intro (H.below hB1) (And.intro hE1 hB1))
  clear hw1 hB1 hE1 H
  refine region_all (C := Below w1.heap.size w1) (by kernel_rfl) (by kernel_rfl) (below_drew _) ?_
  have HC0 : Below w1.heap.size w1 w1 := Below.refl _ _
  cases d
  all_goals
    open BigFrame in
    repeat (first | go_big_quiet_skip | (go_big_quiet_want; first | (apply quiet_one (hC := HC0); exact rfl; exact Nat.le_of_ble_eq_true rfl; (focus (intro w' hw'; have c1 := (HX.out.1.below hw').cells; have c2 := (HX.out.2.1.below hw').cells; obtain ⟨c10, c11, c12, c13⟩ := c1; obtain ⟨c20, c21, c22⟩ := c2; go_big_quiet_op; with_reducible exact rfl)); go_big_quiet_on) | (go_big_quiet_op; apply Exists.intro; refine ⟨fun w' hw' => ?_, ?_⟩; (focus (have c1 := (HX.out.1.below hw').cells; have c2 := (HX.out.2.1.below hw').cells; obtain ⟨c10, c11, c12, c13⟩ := c1; obtain ⟨c20, c21, c22⟩ := c2; first | ((with_reducible exact quiet_call hw' (HL.out _))))); go_big_quiet_on)))
    refine wpQuiet_nil ?_
    intro w2 hb2
    go_wp2
    go_ret
    exact ⟨rfl, HX.out.2.2.trans (hb2.mono HX.out.2.2.size)⟩

theorem cur_end (b : Nat) (h k : Int) (d : Bool) (w : World) (H : CurAt w b h k d) : Calls Tryd.prog 33 #[.pointer (some ⟨b, 0, none⟩)] w fun e w' => e = .returned (.tuple #[]) ∧ CurAt w' b 0 0 true ∧ But b w w' := by
  obtain ⟨c0, c1, c2, c3⟩ := H.cells
  obtain ⟨f0, f1, f2, f3⟩ := H.frees
  have HH := Lib.hid H
  clear H
  go_enter Tryd.func33, Tryd.ntmps33
  go_wp2
  go_end0
  exact ⟨rfl, Blk.set_ (Blk.set_ (Blk.set_ (Blk.set_ HH.out 0 _) 1 _) 2 _) 3 _, ((((But.refl _ _).set_ 0 _).set_ 1 _).set_ 2 _).set_ 3 _⟩

theorem cur_move_yes (b : Nat) (h k : Int) (d : Bool) (h2 k2 : Int) (w : World) (H : CurAt w b h k d) : Calls Tryd.prog 55 #[.pointer (some ⟨b, 0, none⟩), .int .u64 h2, .int .u64 k2, .bool true] w fun e w' => e = .returned (.tuple #[]) ∧ CurAt w' b h2 k2 d ∧ But b w w' := by
  obtain ⟨c0, c1, c2, c3⟩ := H.cells
  obtain ⟨f0, f1, f2, f3⟩ := H.frees
  have HH := Lib.hid H
  clear H
  go_enter Tryd.func55, Tryd.ntmps55
  go_wp2
  go_end0
  exact ⟨rfl, Blk.set_ (Blk.set_ (Blk.set_ HH.out 0 _) 1 _) 2 _, (((But.refl _ _).set_ 0 _).set_ 1 _).set_ 2 _⟩
theorem cur_move_no (b : Nat) (h k : Int) (d : Bool) (h2 k2 : Int) (w : World) (H : CurAt w b h k d) : Calls Tryd.prog 55 #[.pointer (some ⟨b, 0, none⟩), .int .u64 h2, .int .u64 k2, .bool false] w fun e w' => e = .returned (.tuple #[]) ∧ CurAt w' b 0 0 true ∧ But b w w' := by
  have HH := Lib.hid H
  clear H
  go_enter Tryd.func55, Tryd.ntmps55
  go_wp2_with (go_at_call 33; refine (cur_end b h k d _ HH.out).mono ?_; rintro e w1 ⟨rfl, hc, hb⟩)
  try simp only [Exit.inBlock, Exit.then]
  refine bodyPost_ret (results_none rfl _ _ _) rfl ?_
  exact ⟨rfl, hc, hb⟩
theorem cur_move (b : Nat) (h k : Int) (h2 k2 : Int) (w : World) (H : CurAt w b h k false) : Calls Tryd.prog 55 #[.pointer (some ⟨b, 0, none⟩), .int .u64 (afterH k2 h2), .int .u64 (afterK k2), .bool (afterB k2 h2)] w fun e w' => e = .returned (.tuple #[]) ∧ CurAt w' b (afterH k2 h2) (afterK k2) (!afterB k2 h2) ∧ But b w w' := by
  by_cases ha : afterB k2 h2 = true
  · rw [ha]
    exact cur_move_yes b h k false _ _ w H
  · have ha' : afterB k2 h2 = false := by simpa using ha
    have h1 : afterH k2 h2 = 0 ∧ afterK k2 = 0 := by
      simp only [afterB, Bool.or_eq_false_iff, decide_eq_false_iff_not] at ha'
      simp [afterH, afterK, ha'.1, ha'.2]
    rw [ha', h1.1, h1.2]
    exact cur_move_no b h k false _ _ w H

set_option maxHeartbeats 400000 in
theorem cur_pass_no (b : Nat) (h k : Int) (d : Bool) (ek ev eh : Int) (ea : Addr) (w : World) (H : CurAt w b h k d) (hE : ErrAt w 1 ea) (hl : (d || lessB eh ek h k) = true) :
    Calls Tryd.prog 24 #[.pointer (some ⟨b, 0, none⟩), entV ek ev eh] w fun e w' => e = .returned (.iface 148 (.pointer (some ea))) ∧ Below w.heap.size w w' := by
  have HB := Lib.hid (fun W H => cur_behind b h k d ek ev eh W H)
  rw [hl] at HB
  have HH := Lib.hid (And.intro H hE)
  clear H hE hl
  go_enter Tryd.func24, Tryd.ntmps24
  go_upto_region 1 with fail
  generalize hw1 : w.alloc (Obj.cells #[Value.int IntKind.u64 ek, Value.int IntKind.u64 ev, Value.int IntKind.u64 eh] 42) = w1
  have hB1 : Below w.heap.size w w1 := by subst hw1; exact (Below.refl _ _).alloc (Nat.le_refl _) _
  have hE1 : EntAt w1 w.heap.size ek ev eh := by subst hw1; exact Blk.new w _ _
  obtain ⟨c20, c21, c22⟩ := hE1.cells
  have HX := Lib.hid (And.intro (HH.out.1.below hB1) (And.intro (HH.out.2.same hB1) hB1))
  clear hw1 hB1 hE1
  go_upto_region 2 with (go_at_call 25; refine (HB.out _ HX.out.1).mono ?_; rintro e w2 ⟨rfl, hb2⟩)
  have hc : w2.cell? ⟨1, 0, none⟩ = some (.iface 148 (.pointer (some ea))) := HX.out.2.1.same hb2
  go_wp2
  go_ret
  exact ⟨rfl, HX.out.2.2.trans (hb2.mono HX.out.2.2.size)⟩

set_option maxHeartbeats 400000 in
theorem cur_pass_yes (b : Nat) (h k : Int) (ek ev eh : Int) (w : World) (H : CurAt w b h k false) (k0 : 0 ≤ ek) (h0 : 0 ≤ eh) (hl : lessB eh ek h k = false) :
    Calls Tryd.prog 24 #[.pointer (some ⟨b, 0, none⟩), entV ek ev eh] w fun e w' => e = .returned .nilIface ∧ CurAt w' b (afterH ek eh) (afterK ek) (!afterB ek eh) ∧ But b w w' := by
  have HB := Lib.hid (fun W H => cur_behind b h k false ek ev eh W H)
  rw [hl] at HB
  have HA := Lib.hid (fun W => after_any ek ev eh W k0 h0)
  have HM := Lib.hid (fun W H => cur_move b h k eh ek W H)
  have HH := Lib.hid H
  clear H hl
  generalize afterH ek eh = nh at *
  generalize afterK ek = nk at *
  generalize afterB ek eh = nb at *
  go_enter Tryd.func24, Tryd.ntmps24
  go_upto_region 1 with fail
  generalize hw1 : w.alloc (Obj.cells #[Value.int IntKind.u64 ek, Value.int IntKind.u64 ev, Value.int IntKind.u64 eh] 42) = w1
  have hB1 : Below w.heap.size w w1 := by subst hw1; exact (Below.refl _ _).alloc (Nat.le_refl _) _
  have hE1 : EntAt w1 w.heap.size ek ev eh := by subst hw1; exact Blk.new w _ _
  obtain ⟨c20, c21, c22⟩ := hE1.cells
  have HX := Lib.hid (And.intro (HH.out.below hB1) (And.intro hE1 hB1))
  clear hw1 hB1 hE1
  go_upto_region 3 with (go_at_call 25; refine (HB.out _ HX.out.1).mono ?_; rintro e w2 ⟨rfl, hb2⟩)
  have c3 := (HX.out.2.1.below hb2).cells
  obtain ⟨c30, c31, c32⟩ := c3
  go_wp2_with (first
    | (go_at_call 31; refine (HA.out _).mono ?_; rintro e w3 ⟨rfl, hb3⟩)
    | (go_at_call 55; refine (HM.out _ ((HX.out.1.below hb2).below hb3)).mono ?_; rintro e w4 ⟨rfl, hc4, hb4⟩))
  go_ret
  exact ⟨rfl, hc4, (((But.of HX.out.2.2).trans (But.of hb2)).trans (But.of hb3)).trans hb4⟩

set_option maxHeartbeats 400000 in
theorem cur_skip_no (b : Nat) (h k : Int) (d : Bool) (eh : Int) (ea : Addr) (w : World) (H : CurAt w b h k d) (hE : ErrAt w 1 ea) (hl : (d || decide (eh < h)) = true) :
    Calls Tryd.prog 32 #[.pointer (some ⟨b, 0, none⟩), .int .u64 eh] w fun e w' => e = .returned (.iface 148 (.pointer (some ea))) ∧ w = w' := by
  have hc : w.cell? ⟨1, 0, none⟩ = some (.iface 148 (.pointer (some ea))) := hE
  obtain ⟨c0, c1, c2, c3⟩ := H.cells
  clear H hE
  cases d
  case true =>
    clear hl
    go_enter Tryd.func32, Tryd.ntmps32
    go_wp2
    go_ret
    exact ⟨rfl, rfl⟩
  case false =>
    have hl' : decide (eh < h) = true := hl
    clear hl
    go_enter Tryd.func32, Tryd.ntmps32
    go_wp2
    go_ret
    exact ⟨rfl, rfl⟩

set_option maxHeartbeats 400000 in
theorem cur_skip_yes (b : Nat) (h k : Int) (eh : Int) (w : World) (H : CurAt w b h k false) (h0 : 0 ≤ eh) (hl : decide (eh < h) = false) :
    Calls Tryd.prog 32 #[.pointer (some ⟨b, 0, none⟩), .int .u64 eh] w fun e w' => e = .returned .nilIface ∧ CurAt w' b (afterH 18446744073709551615 eh) (afterK 18446744073709551615) (!afterB 18446744073709551615 eh) ∧ But b w w' := by
  have HA := Lib.hid (fun W => after_any 18446744073709551615 0 eh W (by decide) h0)
  have HM := Lib.hid (fun W H => cur_move b h k eh 18446744073709551615 W H)
  have HH := Lib.hid H
  obtain ⟨c0, c1, c2, c3⟩ := H.cells
  clear H
  generalize afterH 18446744073709551615 eh = nh at *
  generalize afterK 18446744073709551615 = nk at *
  generalize afterB 18446744073709551615 eh = nb at *
  go_enter Tryd.func32, Tryd.ntmps32
  go_wp2_with (first
    | (go_at_call 31; refine (HA.out _).mono ?_; rintro e w3 ⟨rfl, hb3⟩)
    | (go_at_call 55; refine (HM.out _ (HH.out.below hb3)).mono ?_; rintro e w4 ⟨rfl, hc4, hb4⟩))
  go_ret
  exact ⟨rfl, hc4, (But.of hb3).trans hb4⟩

theorem alive23 (w : World) : Calls Tryd.prog 20 #[] w fun e w' => e = .returned (.bool true) ∧ Below w.heap.size w w' := by
  have HP := Lib.hid (fun W H => cur_pass_yes w.heap.size 0 0 7 0 5 W H (by decide) (by decide) (by decide))
  have e1 : afterH 7 5 = 5 := by decide
  have e2 : afterK 7 = 8 := by decide
  have e3 : (!afterB 7 5) = false := by decide
  rw [e1, e2, e3] at HP
  clear e1 e2 e3
  go_enter Tryd.func20, Tryd.ntmps20
  go_wp2_with (first
    | (go_at_call 21; refine (cur_new _).mono ?_; rintro e w1 ⟨rfl, hc1, hb1⟩)
    | (go_at_call 24; refine (HP.out _ hc1).mono ?_; rintro e w2 ⟨rfl, hc2, hb2⟩)
    | (go_at_call 37; refine (cur_at _ _ _ _ _ hc2).mono ?_; rintro e w3 ⟨rfl, hb3⟩)
    | (go_at_call 34; refine (cur_done _ _ _ _ _ (hc2.below hb3)).mono ?_; rintro e w4 ⟨rfl, rfl⟩))
  go_ret
  exact ⟨rfl, (hb1.trans (hb2.below (Nat.le_refl _) hb1.size)).trans (hb3.mono (Nat.le_trans hb1.size hb2.size))⟩

end Go.Proofs.YtacdbgoffepaaaaDoor
