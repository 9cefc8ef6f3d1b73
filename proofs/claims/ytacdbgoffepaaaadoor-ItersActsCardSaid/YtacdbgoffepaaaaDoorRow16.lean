/-
  The sixteen errors that a row lists, as cells of the world; a start that holds them. (Printed by mkrow.py.)
-/
import Derived.Test.YtacdbgoffepaaaaDoorRow
namespace Go.Proofs.YtacdbgoffepaaaaDoor
open Go.ChangeShapes Go.WideShapes Go.ChangeAt Go.RowKit

def texts16 : List (String × List UInt8) := [("ambler/api.ErrRange", [97, 32, 110, 117, 109, 98, 101, 114, 32, 105, 115, 32, 111, 117, 116, 32, 111, 102, 32, 105, 116, 115, 32, 114, 97, 110, 103, 101]), ("ambler/api.ErrFull", [116, 104, 101, 114, 101, 32, 105, 115, 32, 110, 111, 32, 109, 111, 114, 101, 32, 114, 111, 111, 109]), ("ambler/api.ErrForm", [105, 116, 32, 105, 115, 32, 110, 111, 116, 32, 111, 102, 32, 105, 116, 115, 32, 102, 111, 114, 109]), ("ambler/api.ErrNone", [116, 104, 101, 114, 101, 32, 105, 115, 32, 110, 111, 110, 101]), ("ambler/api.ErrState", [105, 116, 32, 99, 97, 110, 32, 110, 111, 116, 32, 98, 101, 32, 100, 111, 110, 101, 32, 105, 110, 32, 116, 104, 105, 115, 32, 115, 116, 97, 116, 101]), ("ambler/api.ErrBadIter", [116, 104, 101, 114, 101, 32, 105, 115, 32, 110, 111, 32, 115, 117, 99, 104, 32, 105, 116, 101, 114, 97, 116, 111, 114]), ("ambler/api.ErrTooMany", [116, 104, 101, 114, 101, 32, 97, 114, 101, 32, 116, 111, 111, 32, 109, 97, 110, 121, 32, 105, 116, 101, 114, 97, 116, 111, 114, 115]), ("ambler/api.ErrHash", [111, 110, 101, 32, 107, 101, 121, 32, 104, 97, 115, 32, 116, 119, 111, 32, 104, 97, 115, 104, 101, 115]), ("ambler/api.ErrLong", [116, 104, 101, 114, 101, 32, 105, 115, 32, 109, 111, 114, 101, 32, 116, 104, 97, 110, 32, 109, 97, 121, 32, 98, 101]), ("ambler/api.ErrBroken", [115, 111, 109, 101, 116, 104, 105, 110, 103, 32, 116, 104, 97, 116, 32, 109, 117, 115, 116, 32, 98, 101, 32, 115, 111, 32, 105, 115, 32, 110, 111, 116]), ("ambler/api.ErrLimit", [97, 32, 108, 105, 109, 105, 116, 32, 105, 115, 32, 112, 97, 115, 115, 101, 100]), ("ambler/api.ErrEmpty", [116, 104, 101, 114, 101, 32, 105, 115, 32, 110, 111, 116, 104, 105, 110, 103, 32, 105, 110, 32, 105, 116]), ("ambler/api.ErrNumber", [116, 104, 101, 32, 116, 101, 120, 116, 32, 105, 115, 32, 110, 111, 32, 110, 117, 109, 98, 101, 114]), ("ambler/api.ErrKind", [105, 116, 32, 105, 115, 32, 111, 102, 32, 97, 110, 111, 116, 104, 101, 114, 32, 107, 105, 110, 100]), ("ambler/api.ErrName", [116, 104, 101, 114, 101, 32, 105, 115, 32, 110, 111, 32, 115, 117, 99, 104, 32, 110, 97, 109, 101]), ("ambler/api.ErrDup", [105, 116, 32, 105, 115, 32, 116, 104, 101, 114, 101, 32, 97, 108, 114, 101, 97, 100, 121])]
theorem texts_ok : (List.range 16).all (fun i => match texts16[i]? with | some x => Tryd.prog.globalNamed x.1 == some (gOf i) && (Tryd.prog.globals[gOf i]?).map (·.type) == some 27 | none => false) = true := by kernel_rfl
theorem err16 {W : World} (h : laidMet Tryd.prog (texts16.map (sent "*errors.errorString")) W) : ∃ ea : Nat → Addr, ErrsAt W ea := by
  obtain ⟨ea, h1, h2, h3, h4⟩ := errs_of texts16 ((List.range 16).map gOf) (fun i x hx => by
    have hi : i < 16 := by
      have := (List.getElem?_eq_some_iff.1 hx).1
      simpa [texts16] using this
    have := List.all_eq_true.1 texts_ok i (List.mem_range.2 hi)
    rw [hx] at this
    simp only [Bool.and_eq_true, beq_iff_eq] at this
    exact ⟨gOf i, by simp [hi], this.1, this.2⟩) h
  have hl : ea.length = 16 := h1.trans (by rfl)
  have hget : ∀ i, i < 16 → ea[i]? = some (ea.getD i default) := fun i hi => by
    rw [List.getD_eq_getElem?_getD, List.getElem?_eq_getElem (by omega)]; rfl
  refine ⟨fun i => ea.getD i default, fun i hi => ?_, fun i hi => ?_, fun i j hi hj hij he => hij ?_⟩
  · obtain ⟨g, hg, hE⟩ := h4 i _ (hget i hi)
    simp [hi] at hg
    subst hg
    exact hE
  · exact h3 _ (List.mem_of_getElem? (hget i hi))
  · have a := hget i hi
    have b := hget j hj
    have he' : ea.getD i default = ea.getD j default := he
    rw [he', ← b] at a
    exact (List.getElem?_inj (by omega) h2).1 a
end Go.Proofs.YtacdbgoffepaaaaDoor
