/-
  A slice of entries, as a row's reading gives it, in the form that the walk meets.
-/
import Derived.Test.YtacdbgoffepaaaaDoorActs
import Derived.Test.YtacdbgoffepaaaaDoorSorted
namespace Go.Proofs.YtacdbgoffepaaaaDoor
open Go.ChangeShapes Go.WideShapes Go.Deep Go.RowKit

section
variable {H : Type} {enc : TypeId × Value → H} {W : World} {sp : Nat → Bool} {held : Bool} {fuel : Nat}
theorem ents_of {v : Value} {x : DataW H × List MemPlace} (hv : ∃ a len cap, v = .slice a len cap) (h : DataW.trod enc Tryd.prog W 0 sp held fuel 38 v.cells.toList = some x) :
    ∃ (p : Option Addr) (n cap : Nat) (F : Nat → Ent3), v = .slice p n cap ∧ n ≤ maxLen ∧ EntsAt W p n F ∧ ∀ i, i < n → (F i).ok := by
  obtain ⟨a0, l0, c0, rfl⟩ := hv
  have hC : Tryd.prog.cellsOf 42 = 3 := by kernel_rfl
  rcases open_slice Tryd.underlying38 h with ⟨h0, _⟩ | ⟨a, len, cap, m, n, D, Pl, hcs, hb, hl, hm, hmm, hx, hi⟩
  · have h0' : (Value.slice a0 l0 c0) = .slice none 0 0 := by simpa [Value.cells] using h0
    rw [h0']
    exact ⟨none, 0, 0, fun _ => ⟨0, 0, 0⟩, rfl, by decide, fun i hi => absurd hi (by omega), fun i hi => absurd hi (by omega)⟩
  · have h0' : (Value.slice a0 l0 c0) = .slice (some a) len cap := by simpa [Value.cells] using hcs
    rw [h0']
    have hlm : len ≤ m := by rw [hmm]; split <;> omega
    have key : ∀ i, i < len → ∃ k v h' : Int, W.cell? (a.add (i * 3)) = some (.int .u64 k) ∧ W.cell? ⟨(a.add (i * 3)).block, (a.add (i * 3)).off + 1, none⟩ = some (.int .u64 v) ∧ W.cell? ⟨(a.add (i * 3)).block, (a.add (i * 3)).off + 2, none⟩ = some (.int .u64 h') ∧ (0 ≤ k ∧ k < 18446744073709551616) ∧ 0 ≤ h' ∧ h' < 18446744073709551616 := by
      intro i hil
      obtain ⟨cs', h1, h2⟩ := hi i (by omega)
      rw [hC] at h1
      obtain ⟨_, hcl, hat⟩ := World.cells?_some h1
      obtain ⟨k, v, h', rfl, b0, _, b2⟩ := entry_of h2
      have q0 := hat 0 (by decide)
      have q1 := hat 1 (by decide)
      have q2 := hat 2 (by decide)
      rw [Addr.add_zero'] at q0
      rw [Addr.add_succ'] at q1 q2
      exact ⟨k, v, h', q0, q1, q2, b0, b2⟩
    refine ⟨some a, len, cap, fun i => ⟨rdI W (a.add (i * 3)), rdI W ⟨(a.add (i * 3)).block, (a.add (i * 3)).off + 1, none⟩, rdI W ⟨(a.add (i * 3)).block, (a.add (i * 3)).off + 2, none⟩⟩, rfl, by omega, fun i hi => ?_, fun i hi => ?_⟩
    · obtain ⟨k, v, h', q0, q1, q2, b0, b2⟩ := key i hi
      refine ⟨a, rfl, ?_, ?_, ?_⟩
      · show W.cell? (a.add (i * 3)) = some (.int .u64 (rdI W (a.add (i * 3))))
        rw [rdI_of q0]; exact q0
      · show W.cell? ⟨(a.add (i * 3)).block, (a.add (i * 3)).off + 1, none⟩ = some (.int .u64 (rdI W ⟨(a.add (i * 3)).block, (a.add (i * 3)).off + 1, none⟩))
        rw [rdI_of q1]; exact q1
      · show W.cell? ⟨(a.add (i * 3)).block, (a.add (i * 3)).off + 2, none⟩ = some (.int .u64 (rdI W ⟨(a.add (i * 3)).block, (a.add (i * 3)).off + 2, none⟩))
        rw [rdI_of q2]; exact q2
    · obtain ⟨k, v, h', q0, q1, q2, b0, b2⟩ := key i hi
      unfold Ent3.ok
      simp only [rdI_of q0, rdI_of q2]
      exact ⟨b0.1, b0.2, b2⟩
end
end Go.Proofs.YtacdbgoffepaaaaDoor
