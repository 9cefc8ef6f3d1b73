/-
  A slice of acts over a ledger, as a row's reading gives it, in the form that the walk meets.
-/
import Derived.Test.YtcelngblkjbnfaaEarn
import Derived.Deep.Slices
import Derived.Deep.Fields
import Derived.ChangeSame
import Derived.OpenShut
namespace Go.Proofs.Ytcelngblkjbnfaa
open Go.ChangeShapes Go.WideShapes Go.Deep Go.RowKit

/-- An act: its kind, its number, its float. -/
structure Act7 where
  kind : Int
  num : Int
  flo : Nat
def Act7.ok (x : Act7) : Prop := (-9223372036854775808 ≤ x.num ∧ x.num ≤ 9223372036854775807) ∧ x.flo < 2 ^ 64
/-- A slice of acts, as the walk meets it. -/
def ActsAt (w : World) (p : Option Addr) (n : Nat) (F : Nat → Act7) : Prop :=
  ∀ i, i < n → ∃ a, p = some a ∧ w.cell? (a.add (i * 3)) = some (.int .i64 (F i).kind) ∧ w.cell? ⟨(a.add (i * 3)).block, (a.add (i * 3)).off + 1, none⟩ = some (.int .i64 (F i).num) ∧ w.cell? ⟨(a.add (i * 3)).block, (a.add (i * 3)).off + 2, none⟩ = some (.float .f64 (F i).flo)
theorem ActsAt.below {w w' : World} {p : Option Addr} {n : Nat} {F : Nat → Act7} (H : ActsAt w p n F) (hb : Below w.heap.size w w') : ActsAt w' p n F := by
  intro i hi
  obtain ⟨a, hp, h0, h1, h2⟩ := H i hi
  have hl := block_lt_of_cell h0
  exact ⟨a, hp, (hb.cell hl).trans h0, (hb.cell (p := ⟨(a.add (i * 3)).block, _, none⟩) hl).trans h1, (hb.cell (p := ⟨(a.add (i * 3)).block, _, none⟩) hl).trans h2⟩

section
variable {H : Type} {enc : TypeId × Value → H} {W : World} {sp : Nat → Bool} {held : Bool} {fuel : Nat}
def rdI (w : World) (a : Addr) : Int := match w.cell? a with | some (.int _ n) => n | _ => 0
def rdF (w : World) (a : Addr) : Nat := match w.cell? a with | some (.float _ n) => n | _ => 0
theorem rdI_of {w : World} {a : Addr} {k : IntKind} {n : Int} (h : w.cell? a = some (.int k n)) : rdI w a = n := by simp [rdI, h]
theorem rdF_of {w : World} {a : Addr} {k : FloatKind} {n : Nat} (h : w.cell? a = some (.float k n)) : rdF w a = n := by simp [rdF, h]

theorem trod_float {P : Program} {w : World} {base : Nat} {t : TypeId} {cs : List Value} {x : DataW H × List MemPlace} {k : FloatKind} (ht : P.underlying t = some (.float k)) (h : DataW.trod enc P w base sp held fuel t cs = some x) :
    ∃ b, cs = [.float k b] ∧ (Lit.float k b).wf = true := by
  cases fuel with
  | zero => simp [DataW.trod] at h
  | succ n =>
    unfold DataW.trod at h
    rw [ht] at h
    split at h <;> simp_all

set_option maxRecDepth 100000 in
theorem act_of {cs : List Value} {x : DataW H × List MemPlace} (h : DataW.trod enc Try.prog W 0 sp held fuel 41 cs = some x) :
    ∃ (kd n : Int) (f : Nat), cs = [.int .i64 kd, .int .i64 n, .float .f64 f] ∧ (-9223372036854775808 ≤ n ∧ n ≤ 9223372036854775807) ∧ f < 2 ^ 64 := by
  obtain ⟨ys, n, _, _, hl, hlen, hf⟩ := DataW.trod_struct Try.underlying41 h
  have hl3 : cs.length = 3 := hl.trans (by kernel_rfl)
  match cs, hl3 with
  | [c0, c1, c2], _ =>
    have f0 := hf 0 _ rfl
    have f1 := hf 1 _ rfl
    have f2 := hf 2 _ rfl
    have hc : Try.prog.cellsOf 3 = 1 := by kernel_rfl
    have hc2 : Try.prog.cellsOf 22 = 1 := by kernel_rfl
    obtain ⟨y0, e0⟩ : ∃ y, ys[0]? = some y := ⟨_, List.getElem?_eq_getElem (by rw [hlen]; decide)⟩
    obtain ⟨y1, e1⟩ : ∃ y, ys[1]? = some y := ⟨_, List.getElem?_eq_getElem (by rw [hlen]; decide)⟩
    obtain ⟨y2, e2⟩ : ∃ y, ys[2]? = some y := ⟨_, List.getElem?_eq_getElem (by rw [hlen]; decide)⟩
    rw [e0] at f0
    rw [e1] at f1
    rw [e2] at f2
    obtain ⟨kd, g0, _, w0⟩ := DataW.trod_int Try.underlying3 f0
    obtain ⟨nn, g1, _, w1⟩ := DataW.trod_int Try.underlying3 f1
    obtain ⟨fl, g2, w2⟩ := trod_float Try.underlying22 f2
    change List.take (Try.prog.cellsOf 3) _ = _ at g0 g1
    change List.take (Try.prog.cellsOf 22) _ = _ at g2
    rw [hc] at g0 g1
    rw [hc2] at g2
    simp at g0 g1 g2
    subst g0 g1 g2
    exact ⟨kd, nn, fl, rfl, bounds_i64 w1, by simpa [Lit.wf] using w2⟩

theorem acts_of {v : Value} {x : DataW H × List MemPlace} (hv : ∃ a len cap, v = .slice a len cap) (h : DataW.trod enc Try.prog W 0 sp held fuel 36 v.cells.toList = some x) :
    ∃ (p : Option Addr) (n cap : Nat) (F : Nat → Act7), v = .slice p n cap ∧ n ≤ maxLen ∧ ActsAt W p n F ∧ ∀ i, i < n → (F i).ok := by
  obtain ⟨a0, l0, c0, rfl⟩ := hv
  have hC : Try.prog.cellsOf 41 = 3 := by kernel_rfl
  rcases open_slice Try.underlying36 h with ⟨h0, _⟩ | ⟨a, len, cap, m, n, D, Pl, hcs, hb, hl, hm, hmm, hx, hi⟩
  · have h0' : (Value.slice a0 l0 c0) = .slice none 0 0 := by simpa [Value.cells] using h0
    rw [h0']
    exact ⟨none, 0, 0, fun _ => ⟨0, 0, 0⟩, rfl, by decide, fun i hi => absurd hi (by omega), fun i hi => absurd hi (by omega)⟩
  · have h0' : (Value.slice a0 l0 c0) = .slice (some a) len cap := by simpa [Value.cells] using hcs
    rw [h0']
    have hlm : len ≤ m := by rw [hmm]; split <;> omega
    have key : ∀ i, i < len → ∃ (kd k : Int) (f : Nat), W.cell? (a.add (i * 3)) = some (.int .i64 kd) ∧ W.cell? ⟨(a.add (i * 3)).block, (a.add (i * 3)).off + 1, none⟩ = some (.int .i64 k) ∧ W.cell? ⟨(a.add (i * 3)).block, (a.add (i * 3)).off + 2, none⟩ = some (.float .f64 f) ∧ (-9223372036854775808 ≤ k ∧ k ≤ 9223372036854775807) ∧ f < 2 ^ 64 := by
      intro i hil
      obtain ⟨cs', h1, h2⟩ := hi i (by omega)
      rw [hC] at h1
      obtain ⟨_, hcl, hat⟩ := World.cells?_some h1
      obtain ⟨kd, k, f, rfl, b0, b2⟩ := act_of h2
      have q0 := hat 0 (by decide)
      have q1 := hat 1 (by decide)
      have q2 := hat 2 (by decide)
      rw [Addr.add_zero'] at q0
      rw [Addr.add_succ'] at q1 q2
      exact ⟨kd, k, f, q0, q1, q2, b0, b2⟩
    refine ⟨some a, len, cap, fun i => ⟨rdI W (a.add (i * 3)), rdI W ⟨(a.add (i * 3)).block, (a.add (i * 3)).off + 1, none⟩, rdF W ⟨(a.add (i * 3)).block, (a.add (i * 3)).off + 2, none⟩⟩, rfl, by omega, fun i hi => ?_, fun i hi => ?_⟩
    · obtain ⟨kd, k, f, q0, q1, q2, b0, b2⟩ := key i hi
      refine ⟨a, rfl, ?_, ?_, ?_⟩
      · show W.cell? (a.add (i * 3)) = some (.int .i64 (rdI W (a.add (i * 3))))
        rw [rdI_of q0]; exact q0
      · show W.cell? ⟨(a.add (i * 3)).block, (a.add (i * 3)).off + 1, none⟩ = some (.int .i64 (rdI W ⟨(a.add (i * 3)).block, (a.add (i * 3)).off + 1, none⟩))
        rw [rdI_of q1]; exact q1
      · show W.cell? ⟨(a.add (i * 3)).block, (a.add (i * 3)).off + 2, none⟩ = some (.float .f64 (rdF W ⟨(a.add (i * 3)).block, (a.add (i * 3)).off + 2, none⟩))
        rw [rdF_of q2]; exact q2
    · obtain ⟨kd, k, f, q0, q1, q2, b0, b2⟩ := key i hi
      unfold Act7.ok
      simp only [rdI_of q1, rdF_of q2]
      exact ⟨b0, b2⟩
end
end Go.Proofs.Ytcelngblkjbnfaa
