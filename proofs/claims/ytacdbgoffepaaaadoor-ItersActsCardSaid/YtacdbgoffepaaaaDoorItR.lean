/-
  The document's iterators (amblerref24) by contracts: At, Open. (Printed by mkitr.py.)
-/
import Derived.Test.YtacdbgoffepaaaaDoorAReg
namespace Go.Proofs.YtacdbgoffepaaaaDoor
open Go.RowKit Go.Lib

def ids (E : List Cu) : List Value := E.map fun e => .int .i64 e.id
def ptrs (E : List Cu) : List Value := E.map fun e => .pointer (some ⟨e.b, 0, none⟩)
theorem ids_one (E : List Cu) : ∀ u ∈ ids E, u.oneCell' = true := fun u hu => by
  obtain ⟨x, _, rfl⟩ := List.mem_map.1 hu
  rfl
theorem ptrs_one (E : List Cu) : ∀ u ∈ ptrs E, u.oneCell' = true := fun u hu => by
  obtain ⟨x, _, rfl⟩ := List.mem_map.1 hu
  rfl
section
variable {B : Nat} {w w' : World} {rb : Nat} {most given : Int} {E : List Cu}
/-- A document's state in cells. -/
theorem RI.cells (H : RI B w rb most given E) : ∃ p c p2 c2, Blk w rb 77 #[.int .i64 most, .int .i64 given, .slice p E.length c, .slice p2 E.length c2] ∧ w.ownsRow B 3 1 (.slice p E.length c) E.length (ids E) ∧ w.ownsRow B 62 1 (.slice p2 E.length c2) E.length (ptrs E) ∧
    (∀ i (h : i < E.length), ∃ a, p = some a ∧ w.cell? (a.add i) = some (.int .i64 E[i].id)) ∧ ∀ i (h : i < E.length), ∃ a, p2 = some a ∧ w.cell? (a.add i) = some (.pointer (some ⟨E[i].b, 0, none⟩)) := by
  obtain ⟨vi, vc, h1, h2, h3⟩ := H.ex
  obtain ⟨p, c, rfl, _, _, _, hR⟩ := row1 h2
  obtain ⟨p2, c2, rfl, _, _, _, hQ⟩ := row1 h3
  refine ⟨p, c, p2, c2, h1, h2, h3, fun i h => ?_, fun i h => ?_⟩
  · obtain ⟨a, e, hc⟩ := hR i (by rw [List.length_map]; exact h)
    rw [List.getElem_map] at hc
    exact ⟨a, e, hc⟩
  · obtain ⟨a, e, hc⟩ := hQ i (by rw [List.length_map]; exact h)
    rw [List.getElem_map] at hc
    exact ⟨a, e, hc⟩
set_option maxHeartbeats 1000000 in
set_option maxRecDepth 100000 in
theorem atr_no (H : RI B w rb most given E) {id : Int} (hn : ∀ e ∈ E, e.id ≠ id) : Calls Tryd.prog 47 #[.pointer (some ⟨rb, 0, none⟩), .int .i64 id] w fun x w' => x = .returned (.tuple #[.pointer none, .int .i64 6]) ∧ Below w.heap.size w w' := by
  obtain ⟨p, c, p2, c2, h1, _, _, hR, hQ⟩ := H.cells
  have q2 := h1.cell 2
  have HR := Lib.hid (And.intro hR hn)
  have hsm := H.small
  clear h1 hR hQ hn H
  go_enter Tryd.func47, Tryd.ntmps47
  go_wp2_with fail
  go_loopw [13] (fun s wr => ∃ i : Nat, i ≤ E.length ∧ s = .int .i64 i ∧ wr = w) (fun s _ => E.length - (RowKit.intOf s).toNat)
  case atStart => exact ⟨0, Nat.zero_le _, rfl, rfl⟩
  case round =>
    obtain ⟨i, hi, rfl, rfl⟩ := hrel
    by_cases hlt : i < E.length
    · have hlt1 : (i : Int) < E.length := by omega
      obtain ⟨a, rfl, k0⟩ := HR.out.1 i hlt
      have hne : (E[i].id == id) = false := by simpa using HR.out.2 _ (List.getElem_mem hlt)
      have hw3 : IntKind.i64.wrap ((i : Int) + 1) = (i : Int) + 1 := by rw [IntKind.wrap_i64]; omega
      generalize E[i].id = x at k0 hne
      go_wp2_with fail
      go_roundw
      case rel => exact ⟨i + 1, by omega, rfl, trivial⟩
      case measure => simp only [RowKit.intOf]; omega
    · obtain rfl : i = E.length := by omega
      have hlt1 : ¬ (E.length : Int) < E.length := by omega
      go_wp2_with fail
      go_ret2
      exact ⟨rfl, Below.refl _ _⟩
set_option maxHeartbeats 1000000 in
set_option maxRecDepth 100000 in
theorem atr_yes (H : RI B w rb most given E) (hd : E.Pairwise fun a b => a.id ≠ b.id) {e : Cu} (he : e ∈ E) : Calls Tryd.prog 47 #[.pointer (some ⟨rb, 0, none⟩), .int .i64 e.id] w fun x w' => x = .returned (.tuple #[.pointer (some ⟨e.b, 0, none⟩), .int .i64 0]) ∧ Below w.heap.size w w' := by
  obtain ⟨p, c, p2, c2, h1, _, _, hR, hQ⟩ := H.cells
  have q2 := h1.cell 2
  have q3 := h1.cell 3
  have hone : ∀ i (h : i < E.length), E[i].id = e.id → E[i] = e := fun i h hid => by
    obtain ⟨j, hj, rfl⟩ := List.getElem_of_mem he
    rcases Nat.lt_trichotomy i j with c | c | c
    · exact absurd hid (List.pairwise_iff_getElem.1 hd i j h hj c)
    · subst c; rfl
    · exact absurd hid.symm (List.pairwise_iff_getElem.1 hd j i hj h c)
  have hsome : ∃ j, ∃ h : j < E.length, E[j] = e := List.getElem_of_mem he
  have mixed : Tryd.prog.follows .mixedOrders = true := by kernel_rfl
  have HR := Lib.hid (And.intro hR (And.intro hQ (And.intro hone hsome)))
  have hsm := H.small
  clear h1 hR hQ hone hsome H hd he
  go_enter Tryd.func47, Tryd.ntmps47
  go_wp2_with fail
  go_loopw [13] (fun s wr => ∃ i : Nat, i ≤ E.length ∧ s = .int .i64 i ∧ wr = w ∧ ∀ j (h : j < E.length), j < i → E[j].id ≠ e.id) (fun s _ => E.length - (RowKit.intOf s).toNat)
  case atStart => exact ⟨0, Nat.zero_le _, rfl, rfl, fun j _ h => absurd h (by omega)⟩
  case round =>
    obtain ⟨i, hi, rfl, rfl, hlo⟩ := hrel
    by_cases hlt : i < E.length
    · have hlt1 : (i : Int) < E.length := by omega
      obtain ⟨a, rfl, k0⟩ := HR.out.1 i hlt
      obtain ⟨b, rfl, j0⟩ := HR.out.2.1 i hlt
      have hw3 : IntKind.i64.wrap ((i : Int) + 1) = (i : Int) + 1 := by rw [IntKind.wrap_i64]; omega
      have HL := Lib.hid hlo
      by_cases hid : E[i].id = e.id
      · have hx := HR.out.2.2.1 i hlt hid
        rw [hx] at k0 j0
        have heq : (e.id == e.id) = true := beq_iff_eq.2 rfl
        clear hlo
        go_wp2_with fail
        go_ret2
        exact ⟨rfl, Below.refl _ _⟩
      · have hne : (E[i].id == e.id) = false := by simpa using hid
        have HI := Lib.hid hid
        obtain ⟨y, hy⟩ : ∃ y, y = E[i].id := ⟨_, rfl⟩
        rw [← hy] at k0 hne
        clear hlo hid hy
        go_wp2_with fail
        go_roundw
        case rel =>
          refine ⟨i + 1, by omega, rfl, trivial, fun j hj hji => ?_⟩
          rcases Nat.lt_or_eq_of_le (Nat.le_of_lt_succ hji) with c | rfl
          · exact HL.out j hj c
          · exact HI.out
        case measure => simp only [RowKit.intOf]; omega
    · exfalso
      obtain ⟨j, hj, e1⟩ := HR.out.2.2.2
      exact hlo j hj (by omega) (by rw [e1])
theorem openr_no (H : RI B w rb most given E) (hfull : most ≤ E.length) : Calls Tryd.prog 43 #[.pointer (some ⟨rb, 0, none⟩)] w fun x w' => x = .returned (.tuple #[.int .i64 0, .int .i64 7]) ∧ Below w.heap.size w w' := by
  obtain ⟨p, c, p2, c2, h1, _⟩ := H.cells
  have q0 := h1.cell 0
  have q2 := h1.cell 2
  have hd : decide (most ≤ (E.length : Int)) = true := decide_eq_true hfull
  have mixed : Tryd.prog.follows .mixedOrders = true := by kernel_rfl
  clear h1 H
  go_enter Tryd.func43, Tryd.ntmps43
  go_upto_region 1 with fail
  go_quiet (fail)
  go_wp2_with fail
  go_ret2
  exact ⟨rfl, below_drewN (Below.refl _ _) _⟩
end
end Go.Proofs.YtacdbgoffepaaaaDoor
