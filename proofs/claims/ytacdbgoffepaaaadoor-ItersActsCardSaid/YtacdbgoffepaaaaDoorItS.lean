/-
  Package iters: New; SameInts; the chapter's example (amblerlaw24.alive).
-/
import Derived.Test.YtacdbgoffepaaaaDoorItC
namespace Go.Proofs.YtacdbgoffepaaaaDoor
open Go.RowKit Go.Lib

theorem new_no (w : World) {most : Int} (h : most < 1 ∨ 8 < most) (ea : Addr) (hE : ErrAt w 0 ea) : Calls Tryd.prog 41 #[.int .i64 most] w fun x w' => x = .returned (.tuple #[.pointer none, .iface 148 (.pointer (some ea))]) ∧ Below w.heap.size w w' := by
  have hc : w.cell? ⟨0, 0, none⟩ = some (.iface 148 (.pointer (some ea))) := hE
  clear hE
  rcases h with h | h
  · have d1 : decide (most < 1) = true := decide_eq_true h
    go_enter Tryd.func41, Tryd.ntmps41
    go_wp2_with fail
    go_quiet (fail)
    go_wp2_with fail
    go_ret2
    exact ⟨rfl, below_drewN (Below.refl _ _) _⟩
  · have d1 : decide (most < 1) = false := decide_eq_false (by omega)
    have d2 : decide (8 < most) = true := decide_eq_true h
    go_enter Tryd.func41, Tryd.ntmps41
    go_wp2_with fail
    go_quiet (fail)
    go_wp2_with fail
    go_ret2
    exact ⟨rfl, below_drewN (Below.refl _ _) _⟩
theorem new_yes (w : World) {most : Int} (h1 : 1 ≤ most) (h2 : most ≤ 8) : Calls Tryd.prog 41 #[.int .i64 most] w fun x w' => ∃ tb mb, x = .returned (.tuple #[.pointer (some ⟨tb, 0, none⟩), .nilIface]) ∧ PI w.heap.size w' tb mb most 0 [] 0 ∧ Below w.heap.size w w' := by
  have d1 : decide (most < 1) = false := decide_eq_false (by omega)
  have d2 : decide (8 < most) = false := decide_eq_false (by omega)
  have hmm := @run_makeMap Tryd.prog
  go_enter Tryd.func41, Tryd.ntmps41
  go_wp2_with fail
  go_ret2
  have hb : Below w.heap.size w ((w.alloc (Obj.map #[] 0)).alloc (Obj.cells #[Value.int IntKind.i64 most, Value.int IntKind.i64 0, Value.map (some w.heap.size)] 106)) := ((Below.refl _ _).alloc (Nat.le_refl _) _).alloc (by simp) _
  have hB := Blk.new (w.alloc (Obj.map #[] 0)) 106 #[Value.int IntKind.i64 most, Value.int IntKind.i64 0, Value.map (some w.heap.size)]
  rw [show (w.alloc (Obj.map #[] 0)).heap.size = w.heap.size + 1 from Array.size_push _] at hB
  exact ⟨w.heap.size + 1, w.heap.size, rfl, ⟨⟨.map [], (World.ownsMap_made w _ _ _).alloc _, MapRel.nil⟩, hB, (fun e he => by cases he), List.Pairwise.nil, (fun e he => by cases he), ⟨Nat.le_succ _, Nat.le_refl _⟩, by omega⟩, hb⟩
theorem sameints {B B' n : Nat} {v1 v2 : Value} {xs : List Int} (w : World) (hn : n ≤ 1000) (h1 : w.ownsRow B 3 1 v1 n (nums xs)) (h2 : w.ownsRow B' 3 1 v2 n (nums xs)) : Calls Tryd.prog 50 #[v1, v2] w fun e w' => e = .returned (.bool true) ∧ w = w' := by
  obtain ⟨p, c, rfl, hl, _, _, hR⟩ := row1 h1
  obtain ⟨p2, c2, rfl, _, _, _, hQ⟩ := row1 h2
  have hlen : xs.length = n := by simpa [nums] using hl
  have hR' : ∀ i (h : i < n), ∃ a, p = some a ∧ w.cell? (a.add i) = some (.int .i64 (xs[i]'(by omega))) := fun i h => by
    obtain ⟨a, e, hc⟩ := hR i (by rw [hl]; exact h)
    refine ⟨a, e, ?_⟩
    rw [hc]
    simp [nums]
  have hQ' : ∀ i (h : i < n), ∃ a, p2 = some a ∧ w.cell? (a.add i) = some (.int .i64 (xs[i]'(by omega))) := fun i h => by
    obtain ⟨a, e, hc⟩ := hQ i (by rw [hl]; exact h)
    refine ⟨a, e, ?_⟩
    rw [hc]
    simp [nums]
  have HR := Lib.hid (And.intro hR' hQ')
  have hnn : ((n : Int) != (n : Int)) = false := by simp
  clear h1 h2 hR hQ hR' hQ'
  go_enter Tryd.func50, Tryd.ntmps50
  go_wp2_with fail
  go_loopw [14] (fun s wr => ∃ i : Nat, i ≤ n ∧ s = .int .i64 i ∧ wr = w) (fun s _ => n - (RowKit.intOf s).toNat)
  case atStart => exact ⟨0, Nat.zero_le _, rfl, rfl⟩
  case round =>
    obtain ⟨i, hi, rfl, rfl⟩ := hrel
    by_cases hlt : i < n
    · have hlt1 : (i : Int) < n := by omega
      obtain ⟨a, rfl, k0⟩ := HR.out.1 i hlt
      obtain ⟨b, rfl, j0⟩ := HR.out.2 i hlt
      have hw3 : IntKind.i64.wrap ((i : Int) + 1) = (i : Int) + 1 := by rw [IntKind.wrap_i64]; omega
      generalize xs[i]'(by omega) = x at k0 j0
      have hxx : (x != x) = false := by simp
      go_wp2_with fail
      go_roundw
      case rel => exact ⟨i + 1, by omega, rfl, trivial⟩
      case measure => simp only [RowKit.intOf]; omega
    · obtain rfl : i = n := by omega
      have hlt1 : ¬ (i : Int) < i := by omega
      go_wp2_with fail
      go_ret
      exact ⟨rfl, rfl⟩
theorem alive24 (w : World) : Calls Tryd.prog 40 #[] w fun e w' => e = .returned (.bool true) ∧ Below w.heap.size w w' := by
  go_enter Tryd.func40, Tryd.ntmps40
  go_wp2_with (first
    | (go_at_call 41; refine (new_yes _ (by decide) (by decide)).mono ?_; rintro e w1 ⟨tb, mb, rfl, hP, hb⟩; have HP0 := Lib.hid (And.intro hP hb); clear hP hb)
    | (go_at_call 42; refine (open_yes HP0.out.1 (by decide) (by decide)).mono ?_; rintro e w2 ⟨rfl, b1, hP, hC⟩; have HP1 := Lib.hid (And.intro (show PI w.heap.size w2 tb mb 2 1 [⟨1, b1, 0, 0, false⟩] 1 from hP) (HP0.out.2.trans (hC.below HP0.out.2.size))); clear hP hC HP0)
    | (go_at_call 42; refine (open_yes HP1.out.1 (show (1 : Int) < 2 by decide) (by decide)).mono ?_; rintro e w3 ⟨rfl, b2, hP, hC⟩; have HP2 := Lib.hid (And.intro (show PI w.heap.size w3 tb mb 2 2 [⟨1, b1, 0, 0, false⟩, ⟨2, b2, 0, 0, false⟩] 2 from hP) (HP1.out.2.trans (hC.below HP1.out.2.size))); clear hP hC HP1)
    | (go_at_call 44; refine (close_yes HP2.out.1 (e := ⟨1, b1, 0, 0, false⟩) List.mem_cons_self (show I64 1 from ⟨by decide, by decide⟩)).mono ?_; rintro e w4 ⟨rfl, hP, hC⟩; have HP3 := Lib.hid (And.intro (show PI w.heap.size w4 tb mb 2 2 [⟨2, b2, 0, 0, false⟩] 2 from hP) (HP2.out.2.trans (hC.below HP2.out.2.size))); clear hP hC HP2)
    | (go_at_call 42; refine (open_yes HP3.out.1 (show (1 : Int) < 2 by decide) (by decide)).mono ?_; rintro e w5 ⟨rfl, b3, hP, hC⟩; have HP4 := Lib.hid (HP3.out.2.trans (hC.below HP3.out.2.size)); clear hP hC HP3))
  go_ret
  exact ⟨rfl, HP4.out⟩
end Go.Proofs.YtacdbgoffepaaaaDoor
