/-
  Three floats as an argument (turned from the texts of OrderRuns).
-/
import Derived.Test.YtajklhlgakpgiaaDArgs
import Derived.Lib.SmallJoins
import Derived.OpenShut
namespace Go.Proofs.Ytajklhlgakpgiaa
open Go.RowKit Ieee Go.ChangeShapes Go.WideShapes Go.Joins

section
variable {H : Type} {enc : TypeId × Value → H}
theorem trod_float {P : Program} {w : World} {base : Nat} {sp : Nat → Bool} {held : Bool} {fuel : Nat} {t : TypeId} {cs : List Value} {x : DataW H × List MemPlace} {k : FloatKind} (ht : P.underlying t = some (.float k)) (h : DataW.trod enc P w base sp held fuel t cs = some x) :
    ∃ b, cs = [.float k b] ∧ (Lit.float k b).wf = true := by
  cases fuel with
  | zero => simp [DataW.trod] at h
  | succ n =>
    unfold DataW.trod at h
    rw [ht] at h
    split at h <;> simp_all
set_option maxRecDepth 100000 in
theorem floats3_of {W : World} {base b0 : Nat} {sp : Nat → Bool} {held : Bool} {v : Value} {d : DataW H} {p : List MemPlace} (hv : Value.okWide Try.prog W .any base 52 v) (h : DataW.Trod enc Try.prog W b0 sp held 52 v d p) :
    ∃ a b c : Nat, v = .agg #[.float .f64 a, .float .f64 b, .float .f64 c] ∧ a < 2 ^ 64 ∧ b < 2 ^ 64 ∧ c < 2 ^ 64 := by
  simp only [Value.okWide, Try.underlying52] at hv
  obtain ⟨cs, rfl, hsz, _⟩ := hv
  have hc3 : Try.prog.cellsOf 52 = 3 := by kernel_rfl
  have hc1 : Try.prog.cellsOf 23 = 1 := by kernel_rfl
  obtain ⟨c0, c1, c2, rfl⟩ := array3 (hsz.trans hc3)
  obtain ⟨fuel, hf⟩ := h
  obtain ⟨xs, m, _, _, _, hl, hall⟩ := DataW.trod_array Try.underlying52 hf
  have get : ∀ i, i < 3 → ∃ y, xs[i]? = some y := fun i hi => ⟨_, List.getElem?_eq_getElem (by omega)⟩
  have f0 := hall 0 (by decide)
  have f1 := hall 1 (by decide)
  have f2 := hall 2 (by decide)
  obtain ⟨y0, e0⟩ := get 0 (by decide)
  obtain ⟨y1, e1⟩ := get 1 (by decide)
  obtain ⟨y2, e2⟩ := get 2 (by decide)
  rw [hc1, e0] at f0
  rw [hc1, e1] at f1
  rw [hc1, e2] at f2
  obtain ⟨a, g0, w0⟩ := trod_float Try.underlying23 f0
  obtain ⟨b, g1, w1⟩ := trod_float Try.underlying23 f1
  obtain ⟨c, g2, w2⟩ := trod_float Try.underlying23 f2
  simp [Value.cells] at g0 g1 g2
  subst g0 g1 g2
  exact ⟨a, b, c, rfl, by simpa [Lit.wf] using w0, by simpa [Lit.wf] using w1, by simpa [Lit.wf] using w2⟩
end
end Go.Proofs.Ytajklhlgakpgiaa
