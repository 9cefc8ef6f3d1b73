/-
  The sixteen errors in a world, and the number of an error (amblernum.all, amblernum.Num).
-/
import Derived.Test.YtacdbgoffepaaaaDoorErr
namespace Go.Proofs.YtacdbgoffepaaaaDoor
open Go.RowKit

/-- Which variable holds error i. -/
def gOf (i : Nat) : Nat := [0, 4, 5, 6, 1, 3, 2, 7, 8, 9, 10, 11, 12, 13, 14, 15].getD i 0
/-- The sixteen variables hold sixteen different pointers to errors. -/
structure ErrsAt (w : World) (ea : Nat → Addr) : Prop where
  cell : ∀ i, i < 16 → w.cell? ⟨gOf i, 0, none⟩ = some (.iface 148 (.pointer (some (ea i))))
  blk : ∀ i, i < 16 → ∃ c t, w.heap[(ea i).block]? = some (.cells c t (0, 0))
  ne : ∀ i j, i < 16 → j < 16 → i ≠ j → ea i ≠ ea j
theorem ErrsAt.below {w w' : World} {ea : Nat → Addr} {B : Nat} (h : ErrsAt w ea) (hb : Below B w w') (hB : w.heap.size ≤ B) : ErrsAt w' ea := by
  refine ⟨fun i hi => ?_, fun i hi => ?_, h.ne⟩
  · have hc := h.cell i hi
    have hl := block_lt_of_cell hc
    rw [hb.cell (by omega)]; exact hc
  · obtain ⟨c, t, hc⟩ := h.blk i hi
    have hl := lt_of_block hc
    exact ⟨c, t, by rw [hb.block _ (by omega)]; exact hc⟩
theorem ErrsAt.same {w : World} {ea : Nat → Addr} (h : ErrsAt w ea) {w' : World} (hb : Below w.heap.size w w') : ErrsAt w' ea := h.below hb (Nat.le_refl _)
theorem ErrsAt.all {w : World} {ea : Nat → Addr} (h : ErrsAt w ea) : w.cell? ⟨0, 0, none⟩ = some (.iface 148 (.pointer (some (ea 0)))) ∧ w.cell? ⟨4, 0, none⟩ = some (.iface 148 (.pointer (some (ea 1)))) ∧ w.cell? ⟨5, 0, none⟩ = some (.iface 148 (.pointer (some (ea 2)))) ∧ w.cell? ⟨6, 0, none⟩ = some (.iface 148 (.pointer (some (ea 3)))) ∧ w.cell? ⟨1, 0, none⟩ = some (.iface 148 (.pointer (some (ea 4)))) ∧ w.cell? ⟨3, 0, none⟩ = some (.iface 148 (.pointer (some (ea 5)))) ∧ w.cell? ⟨2, 0, none⟩ = some (.iface 148 (.pointer (some (ea 6)))) ∧ w.cell? ⟨7, 0, none⟩ = some (.iface 148 (.pointer (some (ea 7)))) ∧ w.cell? ⟨8, 0, none⟩ = some (.iface 148 (.pointer (some (ea 8)))) ∧ w.cell? ⟨9, 0, none⟩ = some (.iface 148 (.pointer (some (ea 9)))) ∧ w.cell? ⟨10, 0, none⟩ = some (.iface 148 (.pointer (some (ea 10)))) ∧ w.cell? ⟨11, 0, none⟩ = some (.iface 148 (.pointer (some (ea 11)))) ∧ w.cell? ⟨12, 0, none⟩ = some (.iface 148 (.pointer (some (ea 12)))) ∧ w.cell? ⟨13, 0, none⟩ = some (.iface 148 (.pointer (some (ea 13)))) ∧ w.cell? ⟨14, 0, none⟩ = some (.iface 148 (.pointer (some (ea 14)))) ∧ w.cell? ⟨15, 0, none⟩ = some (.iface 148 (.pointer (some (ea 15)))) :=
  ⟨h.cell 0 (by decide), h.cell 1 (by decide), h.cell 2 (by decide), h.cell 3 (by decide), h.cell 4 (by decide), h.cell 5 (by decide), h.cell 6 (by decide), h.cell 7 (by decide), h.cell 8 (by decide), h.cell 9 (by decide), h.cell 10 (by decide), h.cell 11 (by decide), h.cell 12 (by decide), h.cell 13 (by decide), h.cell 14 (by decide), h.cell 15 (by decide)⟩
/-- One variable holds a pointer to an error. -/
def ErrAt (w : World) (g : Nat) (a : Addr) : Prop := w.cell? ⟨g, 0, none⟩ = some (.iface 148 (.pointer (some a)))
theorem ErrAt.below {w w' : World} {g : Nat} {a : Addr} {B : Nat} (h : ErrAt w g a) (hb : Below B w w') (hB : w.heap.size ≤ B) : ErrAt w' g a := by
  have hl := block_lt_of_cell h
  exact (hb.cell (by omega)).trans h
theorem ErrAt.same {w : World} {g : Nat} {a : Addr} (h : ErrAt w g a) {w' : World} (hb : Below w.heap.size w w') : ErrAt w' g a := h.below hb (Nat.le_refl _)
theorem ErrsAt.one {w : World} {ea : Nat → Addr} (h : ErrsAt w ea) (i : Nat) (hi : i < 16) : ErrAt w (gOf i) (ea i) := h.cell i hi
/-- The value of error number k: nil at 0. -/
def errV (ea : Nat → Addr) (k : Nat) : Value := if k = 0 then .nilIface else .iface 148 (.pointer (some (ea (k - 1))))
theorem errV_zero (ea : Nat → Addr) : errV ea 0 = .nilIface := rfl
theorem errV_succ (ea : Nat → Addr) (i : Nat) : errV ea (i + 1) = .iface 148 (.pointer (some (ea i))) := rfl

/-- A new slice of the sixteen. -/
def AllPost (w : World) (ea : Nat → Addr) (e : Ending) (w' : World) : Prop :=
  ∃ b, e = .returned (.slice (some ⟨b, 0, none⟩) 16 16) ∧ (∀ i, i < 16 → w'.cell? ⟨b, i, none⟩ = some (.iface 148 (.pointer (some (ea i))))) ∧ Below w.heap.size w w'

theorem cells16 (w : World) (ea : Nat → Addr) (t : TypeId) (i : Nat) (hi : i < 16) :
    (w.alloc (.cells #[.iface 148 (.pointer (some (ea 0))), .iface 148 (.pointer (some (ea 1))), .iface 148 (.pointer (some (ea 2))), .iface 148 (.pointer (some (ea 3))), .iface 148 (.pointer (some (ea 4))), .iface 148 (.pointer (some (ea 5))), .iface 148 (.pointer (some (ea 6))), .iface 148 (.pointer (some (ea 7))), .iface 148 (.pointer (some (ea 8))), .iface 148 (.pointer (some (ea 9))), .iface 148 (.pointer (some (ea 10))), .iface 148 (.pointer (some (ea 11))), .iface 148 (.pointer (some (ea 12))), .iface 148 (.pointer (some (ea 13))), .iface 148 (.pointer (some (ea 14))), .iface 148 (.pointer (some (ea 15)))] t)).cell? ⟨w.heap.size, i, none⟩ = some (.iface 148 (.pointer (some (ea i)))) := by
  have h := cell_of_row _ w.heap.size i _ t (0, 0) (heap_alloc_new w (.cells #[.iface 148 (.pointer (some (ea 0))), .iface 148 (.pointer (some (ea 1))), .iface 148 (.pointer (some (ea 2))), .iface 148 (.pointer (some (ea 3))), .iface 148 (.pointer (some (ea 4))), .iface 148 (.pointer (some (ea 5))), .iface 148 (.pointer (some (ea 6))), .iface 148 (.pointer (some (ea 7))), .iface 148 (.pointer (some (ea 8))), .iface 148 (.pointer (some (ea 9))), .iface 148 (.pointer (some (ea 10))), .iface 148 (.pointer (some (ea 11))), .iface 148 (.pointer (some (ea 12))), .iface 148 (.pointer (some (ea 13))), .iface 148 (.pointer (some (ea 14))), .iface 148 (.pointer (some (ea 15)))] t))
  rw [h]
  match i, hi with
  | 0, _ => rfl
  | 1, _ => rfl
  | 2, _ => rfl
  | 3, _ => rfl
  | 4, _ => rfl
  | 5, _ => rfl
  | 6, _ => rfl
  | 7, _ => rfl
  | 8, _ => rfl
  | 9, _ => rfl
  | 10, _ => rfl
  | 11, _ => rfl
  | 12, _ => rfl
  | 13, _ => rfl
  | 14, _ => rfl
  | 15, _ => rfl
  | n + 16, h => omega

set_option maxHeartbeats 1000000 in
set_option maxRecDepth 100000 in
theorem all_any (ea : Nat → Addr) (w : World) (hE : ErrsAt w ea) : Calls Tryd.prog 53 #[] w (AllPost w ea) := by
  obtain ⟨c0, c1, c2, c3, c4, c5, c6, c7, c8, c9, c10, c11, c12, c13, c14, c15⟩ := hE.all
  clear hE
  go_enter Tryd.func53, Tryd.ntmps53
  go_wp2
  go_ret
  exact ⟨w.heap.size, rfl, fun i hi => cells16 w ea _ i hi, (Below.refl _ _).alloc (Nat.le_refl _) _⟩

theorem num_nil (w : World) : Calls Tryd.prog 19 #[.nilIface] w fun e w' => e = .returned (.int .i64 0) ∧ Below w.heap.size w w' := by
  go_enter Tryd.func19, Tryd.ntmps19
  go_wp2
  go_ret
  exact ⟨rfl, Below.refl _ _⟩

set_option maxHeartbeats 1000000 in
set_option maxRecDepth 100000 in
theorem num_err (ea : Nat → Addr) (k : Nat) (hk : k < 16) (w : World) (hE : ErrsAt w ea) :
    Calls Tryd.prog 19 #[.iface 148 (.pointer (some (ea k)))] w fun e w' => e = .returned (.int .i64 (k + 1)) ∧ Below w.heap.size w w' := by
  have HE := Lib.hid hE
  clear hE
  go_enter Tryd.func19, Tryd.ntmps19
  go_wp2_with fail
  refine (all_any ea w HE.out).mono ?_
  rintro e w1 ⟨b, rfl, hcs, hb1⟩
  have HC := Lib.hid hcs
  have HB := Lib.hid hb1
  clear hcs hb1
  go_wp2_with fail
  go_loop [9] (fun i => ∃ j : Nat, j ≤ k ∧ i = .int .i64 j) (fun i => 16 - (intOf i).toNat)
  case atStart => exact ⟨0, Nat.zero_le _, rfl⟩
  case round =>
    obtain ⟨j, hj, rfl⟩ := hrel
    have hcell : w1.cell? ⟨b, j, none⟩ = some (.iface 148 (.pointer (some (ea j)))) := HC.out j (by omega)
    have hj16 : j < 16 := by omega
    by_cases hjk : j = k
    · subst hjk
      go_wp2_with (go_at_call 54; refine (is_same (ea j) _).mono ?_; rintro e w' ⟨rfl, rfl⟩)
      go_ret
      exact ⟨rfl, HB.out⟩
    · have hlt : j < k := by omega
      obtain ⟨ca, ta, ha⟩ := (HE.out.same HB.out).blk k hk
      obtain ⟨cb, tb, hb⟩ := (HE.out.same HB.out).blk j hj16
      have hne := HE.out.ne k j hk hj16 (fun e => hjk e.symm)
      have HH := Lib.hid (And.intro hne (And.intro ha hb))
      clear hne ha hb hjk
      go_wp2_with (go_at_call 54; refine (is_other (ea k) (ea j) ca cb ta tb _ HH.out.1 HH.out.2.1 HH.out.2.2).mono ?_; rintro e w' ⟨rfl, rfl⟩)
      go_round
      case rel => exact ⟨j + 1, by omega, by go_num⟩
      case measure => simp [intOf]; omega

end Go.Proofs.YtacdbgoffepaaaaDoor
