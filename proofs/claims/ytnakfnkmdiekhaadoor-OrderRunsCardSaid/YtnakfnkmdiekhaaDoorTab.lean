/-
  What the table of package bits says of 16, from a row's listed variables.
-/
import Derived.Test.YtnakfnkmdiekhaaDoorHex
import Derived.Test.YtnakfnkmdiekhaaDoorRow16
import Derived.Lib.LaidU8
namespace Go.Proofs.YtnakfnkmdiekhaaDoor
open Go.RowKit Go.ChangeShapes Go.WideShapes

theorem tab_of {w : World} (h : Lib.VarReads Tryd.prog w "math/bits.deBruijn64tab" Rows.laid_math_bits_deBruijn64tab) : TabAt w := by
  obtain ⟨g, t, cs, fuel, p, hg, hty, hvar, hd⟩ := h
  obtain rfl := Option.some.inj ((show Tryd.prog.globalNamed "math/bits.deBruijn64tab" = some 20 by kernel_rfl).symm.trans hg)
  obtain rfl := Option.some.inj ((show (Tryd.prog.globals[20]?).map (·.type) = some 103 by kernel_rfl).symm.trans hty)
  obtain ⟨fuel', d, q, hdi, he⟩ := Lib.array_elem (n := 64) (e := 5) Tryd.underlying103 hd 15 (by decide)
  have hc : Tryd.prog.cellsOf 5 = 1 := by kernel_rfl
  rw [hc] at he
  have hd4 : d = .lit (.int .u8 4) := by
    have : some d = some (DataW.lit (.int .u8 4)) := hdi.symm
    exact Option.some.inj this
  subst hd4
  obtain ⟨z, hz, hx, _⟩ := DataW.trod_int Tryd.underlying5 he
  have hz4 : z = 4 := by
    have := congrArg Prod.fst hx
    simp at this
    exact this.symm
  subst hz4
  show w.cell? ⟨_, 15, none⟩ = _
  rw [World.var?_cell hg hvar 15, ← Array.getElem?_toList]
  have := congrArg (·[0]?) hz
  simpa [List.getElem?_take, List.getElem?_drop] using this
end Go.Proofs.YtnakfnkmdiekhaaDoor
