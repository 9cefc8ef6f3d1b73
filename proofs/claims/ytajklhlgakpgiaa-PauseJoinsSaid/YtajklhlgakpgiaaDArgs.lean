/-
  The laws' arguments, as a row's reading gives them, in the form that the walk meets: a row of whole numbers.
-/
import Derived.Test.YtajklhlgakpgiaaDOrder
import Derived.Deep.Slices
import Derived.Deep.Fields
import Derived.ChangeSame
import Derived.ChangeSlices
namespace Go.Proofs.Ytajklhlgakpgiaa
open Go.ChangeShapes Go.WideShapes Go.Deep Go.RowKit

section
variable {H : Type} {enc : TypeId × Value → H} {W : World} {sp : Nat → Bool} {held : Bool} {fuel : Nat}
theorem nums_of {v : Value} {x : DataW H × List MemPlace} (hv : ∃ a len cap, v = .slice a len cap) (h : DataW.trod enc Try.prog W 0 sp held fuel 22 v.cells.toList = some x) :
    ∃ (p : Option Addr) (n cap : Nat) (l : List Int), v = .slice p n cap ∧ l.length = n ∧ NumsAt W p l := by
  obtain ⟨a0, l0, c0, rfl⟩ := hv
  rcases open_ints Try.underlying22 Try.underlying3 (by kernel_rfl) h with ⟨h0, _⟩ | ⟨a, len, cap, zs, hcs, hb, hl, hm, hlen, _, hz, _⟩
  · have h0' : (Value.slice a0 l0 c0) = .slice none 0 0 := by simpa [Value.cells] using h0
    rw [h0']
    exact ⟨none, 0, 0, [], rfl, rfl, fun i hi => absurd hi (by simp)⟩
  · have h0' : (Value.slice a0 l0 c0) = .slice (some a) len cap := by simpa [Value.cells] using hcs
    rw [h0']
    have hlz : len ≤ zs.length := by rw [hlen]; split <;> omega
    refine ⟨some a, len, cap, zs.take len, rfl, by rw [List.length_take]; omega, fun i hi => ⟨a, rfl, ?_⟩⟩
    rw [List.length_take] at hi
    rw [hz i (by omega), List.getD_eq_getElem?_getD, List.getElem?_eq_getElem (by omega), List.getElem_take]
    rfl
end
end Go.Proofs.Ytajklhlgakpgiaa
