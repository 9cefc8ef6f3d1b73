/-
  The laws' arguments, as a row's reading gives them, in the form that the walk meets: a row of keys, a row of acts.
-/
import Derived.Test.YtfnnfgiflhpefaaDoorBack
import Derived.Deep.Slices
import Derived.Deep.Fields
import Derived.ChangeSame
import Derived.ChangeSlices
namespace Go.Proofs.YtfnnfgiflhpefaaDoor
open Go.ChangeShapes Go.WideShapes Go.Deep Go.RowKit

structure Act3 where
  kind : Int
  key : Int
  val : Int
def Act3.ok (x : Act3) : Prop := (0 ≤ x.key ∧ x.key < 18446744073709551616) ∧ 0 ≤ x.val ∧ x.val < 18446744073709551616
def Act3At (w : World) (p : Option Addr) (l : List Act3) : Prop :=
  ∀ i (h : i < l.length), ∃ a, p = some a ∧ w.cell? (a.add (i * 3)) = some (.int .i64 l[i].kind) ∧ w.cell? ⟨(a.add (i * 3)).block, (a.add (i * 3)).off + 1, none⟩ = some (.int .u64 l[i].key) ∧ w.cell? ⟨(a.add (i * 3)).block, (a.add (i * 3)).off + 2, none⟩ = some (.int .u64 l[i].val)

section
variable {H : Type} {enc : TypeId × Value → H} {W : World} {sp : Nat → Bool} {held : Bool} {fuel : Nat}
theorem keys_of {v : Value} {x : DataW H × List MemPlace} (hv : ∃ a len cap, v = .slice a len cap) (h : DataW.trod enc Tryd.prog W 0 sp held fuel 40 v.cells.toList = some x) :
    ∃ (p : Option Addr) (n cap : Nat) (l : List Int), v = .slice p n cap ∧ l.length = n ∧ KeysAt W p l := by
  obtain ⟨a0, l0, c0, rfl⟩ := hv
  rcases open_ints Tryd.underlying40 Tryd.underlying33 (by kernel_rfl) h with ⟨h0, _⟩ | ⟨a, len, cap, zs, hcs, hb, hl, hm, hlen, _, hz, _⟩
  · have h0' : (Value.slice a0 l0 c0) = .slice none 0 0 := by simpa [Value.cells] using h0
    rw [h0']
    exact ⟨none, 0, 0, [], rfl, rfl, fun i hi => absurd hi (by simp)⟩
  · have h0' : (Value.slice a0 l0 c0) = .slice (some a) len cap := by simpa [Value.cells] using hcs
    rw [h0']
    have hlz : len ≤ zs.length := by rw [hlen]; split <;> omega
    refine ⟨some a, len, cap, zs.take len, rfl, by rw [List.length_take]; omega, fun i hi => ⟨a, rfl, ?_⟩⟩
    rw [List.length_take] at hi
    rw [hz i (by omega), List.getD_eq_getElem?_getD, List.getElem?_eq_getElem (by omega), List.getElem_take]
    rfl

set_option maxRecDepth 100000 in
theorem act3_of {cs : List Value} {x : DataW H × List MemPlace} (h : DataW.trod enc Tryd.prog W 0 sp held fuel 58 cs = some x) :
    ∃ y : Act3, cs = [.int .i64 y.kind, .int .u64 y.key, .int .u64 y.val] ∧ y.ok := by
  obtain ⟨ys, n, _, _, hl, hlen, hf⟩ := DataW.trod_struct Tryd.underlying58 h
  have hl3 : cs.length = 3 := hl.trans (by kernel_rfl)
  match cs, hl3 with
  | [c0, c1, c2], _ =>
    have f0 := hf 0 _ rfl
    have f1 := hf 1 _ rfl
    have f2 := hf 2 _ rfl
    have hc : Tryd.prog.cellsOf 33 = 1 := by kernel_rfl
    have hc' : Tryd.prog.cellsOf 3 = 1 := by kernel_rfl
    obtain ⟨y0, e0⟩ : ∃ y, ys[0]? = some y := ⟨_, List.getElem?_eq_getElem (by rw [hlen]; decide)⟩
    obtain ⟨y1, e1⟩ : ∃ y, ys[1]? = some y := ⟨_, List.getElem?_eq_getElem (by rw [hlen]; decide)⟩
    obtain ⟨y2, e2⟩ : ∃ y, ys[2]? = some y := ⟨_, List.getElem?_eq_getElem (by rw [hlen]; decide)⟩
    rw [e0] at f0
    rw [e1] at f1
    rw [e2] at f2
    obtain ⟨k, g0, _, w0⟩ := DataW.trod_int Tryd.underlying3 f0
    obtain ⟨v, g1, _, w1⟩ := DataW.trod_int Tryd.underlying33 f1
    obtain ⟨h', g2, _, w2⟩ := DataW.trod_int Tryd.underlying33 f2
    change List.take (Tryd.prog.cellsOf 3) _ = _ at g0
    change List.take (Tryd.prog.cellsOf 33) _ = _ at g1 g2
    rw [hc'] at g0
    rw [hc] at g1 g2
    simp at g0 g1 g2
    subst g0 g1 g2
    have b1 := bounds_u64 w1
    have b2 := bounds_u64 w2
    exact ⟨⟨k, v, h'⟩, rfl, ⟨b1.1, by simp only; omega⟩, b2.1, by simp only; omega⟩

theorem acts3_of {v : Value} {x : DataW H × List MemPlace} (hv : ∃ a len cap, v = .slice a len cap) (h : DataW.trod enc Tryd.prog W 0 sp held fuel 22 v.cells.toList = some x) :
    ∃ (p : Option Addr) (n cap : Nat) (l : List Act3), v = .slice p n cap ∧ l.length = n ∧ Act3At W p l ∧ ∀ y ∈ l, y.ok := by
  obtain ⟨a0, l0, c0, rfl⟩ := hv
  have hC : Tryd.prog.cellsOf 58 = 3 := by kernel_rfl
  rcases open_slice Tryd.underlying22 h with ⟨h0, _⟩ | ⟨a, len, cap, m, n, D, Pl, hcs, hb, hl, hm, hmm, hx, hi⟩
  · have h0' : (Value.slice a0 l0 c0) = .slice none 0 0 := by simpa [Value.cells] using h0
    rw [h0']
    exact ⟨none, 0, 0, [], rfl, rfl, fun i hi => absurd hi (by simp), fun y hy => by cases hy⟩
  · have h0' : (Value.slice a0 l0 c0) = .slice (some a) len cap := by simpa [Value.cells] using hcs
    rw [h0']
    have hlm : len ≤ m := by rw [hmm]; split <;> omega
    have key : ∀ i, i < len → ∃ y : Act3, (W.cell? (a.add (i * 3)) = some (.int .i64 y.kind) ∧ W.cell? ⟨(a.add (i * 3)).block, (a.add (i * 3)).off + 1, none⟩ = some (.int .u64 y.key) ∧ W.cell? ⟨(a.add (i * 3)).block, (a.add (i * 3)).off + 2, none⟩ = some (.int .u64 y.val)) ∧ y.ok := by
      intro i hil
      obtain ⟨cs', h1, h2⟩ := hi i (by omega)
      rw [hC] at h1
      obtain ⟨_, hcl, hat⟩ := World.cells?_some h1
      obtain ⟨y, rfl, b⟩ := act3_of h2
      have q0 := hat 0 (by decide)
      have q1 := hat 1 (by decide)
      have q2 := hat 2 (by decide)
      rw [Addr.add_zero'] at q0
      rw [Addr.add_succ'] at q1 q2
      exact ⟨y, ⟨q0, q1, q2⟩, b⟩
    let F : Nat → Act3 := fun i => if hil : i < len then (key i hil).choose else ⟨0, 0, 0⟩
    have hF : ∀ i (hil : i < len), (W.cell? (a.add (i * 3)) = some (.int .i64 (F i).kind) ∧ W.cell? ⟨(a.add (i * 3)).block, (a.add (i * 3)).off + 1, none⟩ = some (.int .u64 (F i).key) ∧ W.cell? ⟨(a.add (i * 3)).block, (a.add (i * 3)).off + 2, none⟩ = some (.int .u64 (F i).val)) ∧ (F i).ok := by
      intro i hil
      have : F i = (key i hil).choose := dif_pos hil
      rw [this]
      exact (key i hil).choose_spec
    refine ⟨some a, len, cap, (List.range len).map F, rfl, by simp, fun i hi => ⟨a, rfl, ?_⟩, fun y hy => ?_⟩
    · simp only [List.length_map, List.length_range] at hi
      simp only [List.getElem_map, List.getElem_range]
      exact (hF i hi).1
    · obtain ⟨i, hi, rfl⟩ := List.mem_map.1 hy
      exact (hF i (List.mem_range.1 hi)).2
end
end Go.Proofs.YtfnnfgiflhpefaaDoor
