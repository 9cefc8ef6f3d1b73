/-
  copy at elements of k cells, onto a row (plain, any program); lists of cells.
-/
import Derived.Test.YtfnnfgiflhpefaaDoorPairs
import Derived.Laws.CopyRow
import Derived.Laws.AppendOwn
import Derived.Maps.AppendAt
namespace Go.Proofs.YtfnnfgiflhpefaaDoor
open Go.RowKit

theorem run_copy_rowK {P : Program} (w : World) (dT sT ty elem : TypeId) (g o dLen dCap : Nat) (a : Addr) (sLen sCap : Nat) (cur : Array Value) (t : TypeId) (cs : List Value) (N k : Nat)
    (hu : P.underlying dT = some (.slice elem)) (hs : (P.info? elem).map (·.size) = some k)
    (hg : w.heap[g]? = some (.cells cur t (0, 0))) (hN : N = Nat.min sLen dLen) (hn : cs.length = N * k)
    (hsrc : ∀ j v, cs[j]? = some v → w.cell? (a.add j) = some v) (hfit : o + cs.length ≤ cur.size) (h1 : ∀ v ∈ cs, v.oneCell' = true) :
    (Builtin.copy_ #[dT, sT] ty #[.slice (some ⟨g, o, none⟩) dLen dCap, .slice (some a) sLen sCap]).run P w =
      .ok (goInt N) (w.setRow g (cur.toList.take o ++ cs ++ cur.toList.drop (o + cs.length)).toArray) := by
  have hl := run_loadCells_list (P := P) w a cs hsrc
  have hst := run_storeCells_at P g o t cs 0 cur w hg (by simpa using hfit) h1
  cases hq : P.info? elem with
  | none => simp [hq] at hs
  | some i =>
    have hi : i.size = k := by simpa [hq] using hs
    rw [hn] at hl
    simp [Builtin.copy_, run_underlying hu, Builtin.lenOf, Builtin.firstCells, sizeOf, typeInfo, hq, hi, ← hN, hl, hst]

theorem flat2_length (l : List Pr2) : (flat2 l).length = l.length * 2 := by
  induction l with
  | nil => rfl
  | cons x l ih => simp [flat2, Pr2.cells] at ih ⊢; omega
theorem flat2_app (l m : List Pr2) : flat2 (l ++ m) = flat2 l ++ flat2 m := by simp [flat2]
theorem flat2_one (l : List Pr2) : ∀ u ∈ flat2 l, u.oneCell' = true := by
  intro u hu
  obtain ⟨x, _, hx⟩ := List.mem_flatMap.1 hu
  simp [Pr2.cells] at hx
  rcases hx with rfl | rfl <;> rfl
theorem flat2_take (l : List Pr2) (k : Nat) (hk : k ≤ l.length) : (flat2 l).take (k * 2) = flat2 (l.take k) := by
  have h : flat2 l = flat2 (l.take k) ++ flat2 (l.drop k) := by rw [← flat2_app, List.take_append_drop]
  rw [h, List.take_left' (by rw [flat2_length, List.length_take]; omega)]
theorem flat2_drop (l : List Pr2) (k : Nat) (hk : k ≤ l.length) : (flat2 l).drop (k * 2) = flat2 (l.drop k) := by
  have h : flat2 l = flat2 (l.take k) ++ flat2 (l.drop k) := by rw [← flat2_app, List.take_append_drop]
  rw [h, List.drop_left' (by rw [flat2_length, List.length_take]; omega)]
/-- The list with one pair put in. -/
def putIn (x : Pr2) (i : Nat) (l : List Pr2) : List Pr2 := l.take i ++ x :: l.drop i
theorem flat2_putIn (x : Pr2) (i : Nat) (l : List Pr2) : flat2 (putIn x i l) = flat2 (l.take i) ++ x.cells ++ flat2 (l.drop i) := by simp [putIn, flat2]
theorem putIn_length (x : Pr2) (i : Nat) (l : List Pr2) (h : i ≤ l.length) : (putIn x i l).length = l.length + 1 := by simp [putIn]; omega

/-- What two copies leave of a row: the pair put in. -/
theorem shift_cells (x : Pr2) (i n : Nat) (l : List Pr2) (hn : l.length = n) (hi : i ≤ n) (cur cur1 cur2 : List Value) (hc : cur.take (n * 2) = flat2 l) (hlen : (n + 1) * 2 ≤ cur.length)
    (h1 : cur1 = cur.take ((i + 1) * 2) ++ flat2 (l.drop i) ++ cur.drop ((i + 1) * 2 + (flat2 (l.drop i)).length)) (h2 : cur2 = cur1.take (i * 2) ++ x.cells ++ cur1.drop (i * 2 + x.cells.length)) :
    cur2.take ((n + 1) * 2) = flat2 (putIn x i l) ∧ cur2.length = cur.length ∧ cur1.length = cur.length := by
  have hd : (flat2 (l.drop i)).length = (n - i) * 2 := by rw [flat2_length, List.length_drop, hn]
  have hti : cur.take (i * 2) = flat2 (l.take i) := by
    rw [← flat2_take l i (by omega), ← hc, List.take_take]
    congr 1
    omega
  have hx : x.cells.length = 2 := rfl
  have e1 : cur1.take (i * 2) = flat2 (l.take i) := by
    rw [h1, List.append_assoc, List.take_append_of_le_length (by simp; omega), List.take_take, ← hti]
    congr 1
    omega
  have hl1 : cur1.length = cur.length := by
    rw [h1]
    simp [hd]
    omega
  have e2 : (cur1.drop (i * 2 + 2)).take ((n - i) * 2) = flat2 (l.drop i) := by
    rw [h1, List.append_assoc, List.drop_append_of_le_length (by simp; omega), List.drop_eq_nil_of_le (by simp; omega), List.nil_append]
    rw [List.take_append_of_le_length (by omega), List.take_of_length_le (by omega)]
  refine ⟨?_, ?_, hl1⟩
  · rw [h2, hx, e1, flat2_putIn]
    have hA : (flat2 (l.take i) ++ x.cells).length = i * 2 + 2 := by rw [List.length_append, flat2_length, List.length_take, hn, hx]; omega
    rw [List.take_append, List.take_of_length_le (by omega), hA, show (n + 1) * 2 - (i * 2 + 2) = (n - i) * 2 by omega, e2]
  · rw [h2, hx]
    simp
    omega
end Go.Proofs.YtfnnfgiflhpefaaDoor
