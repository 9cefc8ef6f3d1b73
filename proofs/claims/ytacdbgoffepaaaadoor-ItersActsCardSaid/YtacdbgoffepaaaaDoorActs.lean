/-
  A slice of acts, as a row's reading gives it, in the form that the walk meets.
-/
import Derived.Test.YtacdbgoffepaaaaDoorCurOn
import Derived.Deep.Slices
import Derived.Deep.Fields
import Derived.ChangeSame
namespace Go.Proofs.YtacdbgoffepaaaaDoor
open Go.ChangeShapes Go.WideShapes Go.Deep Go.RowKit

section
variable {H : Type} {enc : TypeId × Value → H} {W : World} {sp : Nat → Bool} {held : Bool} {fuel : Nat}
/-- An integer's cell, read. -/
def rdI (w : World) (a : Addr) : Int := match w.cell? a with | some (.int _ n) => n | _ => 0
theorem rdI_of {w : World} {a : Addr} {k : IntKind} {n : Int} (h : w.cell? a = some (.int k n)) : rdI w a = n := by simp [rdI, h]

set_option maxRecDepth 100000 in
theorem entry_of {cs : List Value} {x : DataW H × List MemPlace} (h : DataW.trod enc Tryd.prog W 0 sp held fuel 42 cs = some x) :
    ∃ k v h', cs = [.int .u64 k, .int .u64 v, .int .u64 h'] ∧ (0 ≤ k ∧ k < 18446744073709551616) ∧ (0 ≤ v ∧ v < 18446744073709551616) ∧ 0 ≤ h' ∧ h' < 18446744073709551616 := by
  obtain ⟨ys, n, _, _, hl, hlen, hf⟩ := DataW.trod_struct Tryd.underlying42 h
  have hl3 : cs.length = 3 := hl.trans (by kernel_rfl)
  match cs, hl3 with
  | [c0, c1, c2], _ =>
    have f0 := hf 0 _ rfl
    have f1 := hf 1 _ rfl
    have f2 := hf 2 _ rfl
    have hc : Tryd.prog.cellsOf 22 = 1 := by kernel_rfl
    obtain ⟨y0, e0⟩ : ∃ y, ys[0]? = some y := ⟨_, List.getElem?_eq_getElem (by rw [hlen]; decide)⟩
    obtain ⟨y1, e1⟩ : ∃ y, ys[1]? = some y := ⟨_, List.getElem?_eq_getElem (by rw [hlen]; decide)⟩
    obtain ⟨y2, e2⟩ : ∃ y, ys[2]? = some y := ⟨_, List.getElem?_eq_getElem (by rw [hlen]; decide)⟩
    rw [e0] at f0
    rw [e1] at f1
    rw [e2] at f2
    obtain ⟨k, g0, _, w0⟩ := DataW.trod_int Tryd.underlying22 f0
    obtain ⟨v, g1, _, w1⟩ := DataW.trod_int Tryd.underlying22 f1
    obtain ⟨h', g2, _, w2⟩ := DataW.trod_int Tryd.underlying22 f2
    change List.take (Tryd.prog.cellsOf 22) _ = _ at g0 g1 g2
    rw [hc] at g0 g1 g2
    simp at g0 g1 g2
    subst g0 g1 g2
    have b0 := bounds_u64 w0
    have b1 := bounds_u64 w1
    have b2 := bounds_u64 w2
    exact ⟨k, v, h', rfl, ⟨b0.1, by omega⟩, ⟨b1.1, by omega⟩, b2.1, by omega⟩

set_option maxRecDepth 100000 in
theorem act_of {cs : List Value} {x : DataW H × List MemPlace} (h : DataW.trod enc Tryd.prog W 0 sp held fuel 59 cs = some x) :
    ∃ kd k v h', cs = [.int .i64 kd, .int .u64 k, .int .u64 v, .int .u64 h'] ∧ (0 ≤ k ∧ k < 18446744073709551616) ∧ 0 ≤ h' ∧ h' < 18446744073709551616 := by
  obtain ⟨ys, n, _, _, hl, hlen, hf⟩ := DataW.trod_struct Tryd.underlying59 h
  have hl4 : cs.length = 4 := hl.trans (by kernel_rfl)
  match cs, hl4 with
  | [c0, c1, c2, c3], _ =>
    have f0 := hf 0 _ rfl
    have f1 := hf 1 _ rfl
    have hc : Tryd.prog.cellsOf 3 = 1 := by kernel_rfl
    obtain ⟨y0, e0⟩ : ∃ y, ys[0]? = some y := ⟨_, List.getElem?_eq_getElem (by rw [hlen]; decide)⟩
    obtain ⟨y1, e1⟩ : ∃ y, ys[1]? = some y := ⟨_, List.getElem?_eq_getElem (by rw [hlen]; decide)⟩
    rw [e0] at f0
    rw [e1] at f1
    obtain ⟨kd, g0, _, _⟩ := DataW.trod_int Tryd.underlying3 f0
    obtain ⟨k, v, h', g1, b0, _, b2⟩ := entry_of f1
    change List.take (Tryd.prog.cellsOf 3) _ = _ at g0
    have hc3 : Tryd.prog.cellsOf 42 = 3 := by kernel_rfl
    change List.take (Tryd.prog.cellsOf 42) _ = _ at g1
    rw [hc] at g0
    rw [hc3] at g1
    simp at g0 g1
    obtain ⟨rfl, rfl, rfl⟩ := g1
    subst g0
    exact ⟨kd, k, v, h', rfl, b0, b2⟩

theorem acts_of {v : Value} {x : DataW H × List MemPlace} (hv : ∃ a len cap, v = .slice a len cap) (h : DataW.trod enc Tryd.prog W 0 sp held fuel 57 v.cells.toList = some x) :
    ∃ (p : Option Addr) (n cap : Nat) (F : Nat → Act4), v = .slice p n cap ∧ n ≤ maxLen ∧ ActsAt W p n F ∧ ∀ i, i < n → (F i).ok := by
  obtain ⟨a0, l0, c0, rfl⟩ := hv
  have hC : Tryd.prog.cellsOf 59 = 4 := by kernel_rfl
  rcases open_slice Tryd.underlying57 h with ⟨h0, _⟩ | ⟨a, len, cap, m, n, D, Pl, hcs, hb, hl, hm, hmm, hx, hi⟩
  · have h0' : (Value.slice a0 l0 c0) = .slice none 0 0 := by simpa [Value.cells] using h0
    rw [h0']
    exact ⟨none, 0, 0, fun _ => ⟨0, 0, 0, 0⟩, rfl, by decide, fun i hi => absurd hi (by omega), fun i hi => absurd hi (by omega)⟩
  · have h0' : (Value.slice a0 l0 c0) = .slice (some a) len cap := by simpa [Value.cells] using hcs
    rw [h0']
    have hlm : len ≤ m := by rw [hmm]; split <;> omega
    have key : ∀ i, i < len → ∃ kd k v h' : Int, W.cell? (a.add (i * 4)) = some (.int .i64 kd) ∧ W.cell? ⟨(a.add (i * 4)).block, (a.add (i * 4)).off + 1, none⟩ = some (.int .u64 k) ∧ W.cell? ⟨(a.add (i * 4)).block, (a.add (i * 4)).off + 2, none⟩ = some (.int .u64 v) ∧ W.cell? ⟨(a.add (i * 4)).block, (a.add (i * 4)).off + 3, none⟩ = some (.int .u64 h') ∧ (0 ≤ k ∧ k < 18446744073709551616) ∧ 0 ≤ h' ∧ h' < 18446744073709551616 := by
      intro i hil
      obtain ⟨cs', h1, h2⟩ := hi i (by omega)
      rw [hC] at h1
      obtain ⟨_, hcl, hat⟩ := World.cells?_some h1
      obtain ⟨kd, k, v, h', rfl, b0, b2⟩ := act_of h2
      have q0 := hat 0 (by decide)
      have q1 := hat 1 (by decide)
      have q2 := hat 2 (by decide)
      have q3 := hat 3 (by decide)
      rw [Addr.add_zero'] at q0
      rw [Addr.add_succ'] at q1 q2 q3
      exact ⟨kd, k, v, h', q0, q1, q2, q3, b0, b2⟩
    refine ⟨some a, len, cap, fun i => ⟨rdI W (a.add (i * 4)), rdI W ⟨(a.add (i * 4)).block, (a.add (i * 4)).off + 1, none⟩, rdI W ⟨(a.add (i * 4)).block, (a.add (i * 4)).off + 2, none⟩, rdI W ⟨(a.add (i * 4)).block, (a.add (i * 4)).off + 3, none⟩⟩, rfl, by omega, fun i hi => ?_, fun i hi => ?_⟩
    · obtain ⟨kd, k, v, h', q0, q1, q2, q3, b0, b2⟩ := key i hi
      refine ⟨a, rfl, ?_, ?_, ?_, ?_⟩
      · show W.cell? (a.add (i * 4)) = some (.int .i64 (rdI W (a.add (i * 4))))
        rw [rdI_of q0]; exact q0
      · show W.cell? ⟨(a.add (i * 4)).block, (a.add (i * 4)).off + 1, none⟩ = some (.int .u64 (rdI W ⟨(a.add (i * 4)).block, (a.add (i * 4)).off + 1, none⟩))
        rw [rdI_of q1]; exact q1
      · show W.cell? ⟨(a.add (i * 4)).block, (a.add (i * 4)).off + 2, none⟩ = some (.int .u64 (rdI W ⟨(a.add (i * 4)).block, (a.add (i * 4)).off + 2, none⟩))
        rw [rdI_of q2]; exact q2
      · show W.cell? ⟨(a.add (i * 4)).block, (a.add (i * 4)).off + 3, none⟩ = some (.int .u64 (rdI W ⟨(a.add (i * 4)).block, (a.add (i * 4)).off + 3, none⟩))
        rw [rdI_of q3]; exact q3
    · obtain ⟨kd, k, v, h', q0, q1, q2, q3, b0, b2⟩ := key i hi
      unfold Act4.ok
      simp only [rdI_of q1, rdI_of q3]
      exact ⟨b0.1, b0.2, b2⟩
end
end Go.Proofs.YtacdbgoffepaaaaDoor
