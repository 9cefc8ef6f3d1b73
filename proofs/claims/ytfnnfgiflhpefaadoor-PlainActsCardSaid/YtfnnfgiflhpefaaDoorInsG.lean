/-
  slices.Insert of one pair where there is no room: a new row (turned from the kit's SlicesInsertGrow to elements of two cells).
-/
import Derived.Test.YtfnnfgiflhpefaaDoorIns
import Derived.Shelf.Spec.SlicesInsertGrow
import Derived.Laws.CopyOwn
namespace Go.Proofs.YtfnnfgiflhpefaaDoor
open Go.RowKit Go.Lib

/-- What two copies leave of a new row. -/
theorem new_cells (x : Pr2) (i n G : Nat) (l : List Pr2) (hn : l.length = n) (hi : i ≤ n) (row cur1 cur2 : List Value) (hr : row.take (i * 2) = flat2 (l.take i)) (hlen : row.length = G * 2) (hG : n + 1 ≤ G)
    (h1 : cur1 = row.take (i * 2) ++ x.cells ++ row.drop (i * 2 + x.cells.length)) (h2 : cur2 = cur1.take ((i + 1) * 2) ++ flat2 (l.drop i) ++ cur1.drop ((i + 1) * 2 + (flat2 (l.drop i)).length)) :
    cur2.take ((n + 1) * 2) = flat2 (putIn x i l) ∧ cur2.length = G * 2 ∧ cur1.length = G * 2 := by
  have hd : (flat2 (l.drop i)).length = (n - i) * 2 := by rw [flat2_length, List.length_drop, hn]
  have ht : (flat2 (l.take i)).length = i * 2 := by rw [flat2_length, List.length_take, hn]; omega
  have hx : x.cells.length = 2 := rfl
  have l1 : cur1.length = G * 2 := by
    rw [h1, hx]
    simp
    omega
  have e1 : cur1.take ((i + 1) * 2) = flat2 (l.take i) ++ x.cells := by
    rw [h1, hr, List.take_append_of_le_length (by rw [List.length_append, ht, hx]; omega), List.take_of_length_le (by rw [List.length_append, ht, hx]; omega)]
  have l2 : cur2.length = G * 2 := by
    rw [h2, e1]
    simp [ht, hd, hx, l1]
    omega
  refine ⟨?_, l2, l1⟩
  rw [h2, e1, flat2_putIn, List.take_append_of_le_length (by simp [ht, hd, hx]; omega), List.take_of_length_le (by simp [ht, hd, hx]; omega)]

set_option maxHeartbeats 4000000 in
set_option maxRecDepth 100000 in
theorem insert_grow (g n c i vb base : Nat) (t tV : TypeId) (cur : Array Value) (l : List Pr2) (x : Pr2) (w : World) (hi : i < n) (hnc : n ≤ c) (hroom : c < n + 1) (hb : n ≤ 1000) (hn : l.length = n) (hbase : base ≤ w.heap.size)
    (hg : Blk w g t cur) (hcl : cur.toList.take (n * 2) = flat2 l) (hv : Blk w vb tV #[.int .u64 x.key, .int .u64 x.val]) :
    Calls Tryd.prog 28 #[.slice (some ⟨g, 0, none⟩) n c, .int .i64 i, .slice (some ⟨vb, 0, none⟩) 1 1] w fun e w' =>
      ∃ v', e = .returned v' ∧ w'.ownsRow base 35 2 v' (n + 1) (flat2 (putIn x i l)) ∧ Below w.heap.size w w' ∧ v'.ownBlock = some w.heap.size := by
  obtain ⟨i0, hi0, hz0, hzs, hzb⟩ := info_pair
  have hcell : ∀ j v, (flat2 l)[j]? = some v → w.cell? ⟨g, j, none⟩ = some v := by
    intro j v hj
    rw [hg.cell, ← Array.getElem?_toList]
    rw [← hcl, List.getElem?_take] at hj
    split at hj
    · exact hj
    · cases hj
  have hgw := hg.lt
  have hvw := hv.lt
  have hold : (Builtin.firstCells i0.size i (.slice (some ⟨g, 0, none⟩) i c)).run Tryd.prog w.drew = .ok (flat2 (l.take i)).toArray w.drew := by
    rw [hzs]
    exact run_firstCells_some w.drew 2 i ⟨g, 0, none⟩ i c (flat2 (l.take i)) (by rw [flat2_length, List.length_take]; omega) (fun j v hj => by
      rw [Addr.add_lit, Nat.zero_add]
      rw [← flat2_take l i (by omega), List.getElem?_take] at hj
      split at hj
      · exact hcell j v hj
      · cases hj)
  have hik : i + (n + 1 - i) = n + 1 := by omega
  have hkk : (n : Int) + 1 - (i : Int) = ((n + 1 - i : Nat) : Int) := by omega
  obtain ⟨G, hG⟩ : ∃ G, G = grownCap w (n + 1) c 35 := ⟨_, rfl⟩
  obtain ⟨ROW, hROW⟩ : ∃ ROW : Array Value, ROW = (flat2 (l.take i)).toArray ++ Builtin.zeroCells (Value.agg #[.int .u64 0, .int .u64 0]).cells (n + 1 - i) ++ Builtin.zeroCells (Value.agg #[.int .u64 0, .int .u64 0]).cells (G - (n + 1)) := ⟨_, rfl⟩
  have hrz : ∀ ty, (Builtin.append_ #[28, 3] ty #[.slice (some ⟨g, 0, none⟩) i c, .int .i64 ((n : Int) + 1 - (i : Int))]).run Tryd.prog w =
      .ok (.slice (some ⟨w.heap.size, 0, none⟩) (n + 1) G) (w.drew.alloc (.cells ROW 35)) := fun ty => by
    have h := Lib.run_append_grow_zeros w 28 3 ty 35 i0 _ .i64 .i64 Tryd.underlying28 Tryd.underlying3 hi0 hz0 (some ⟨g, 0, none⟩) i c (flat2 (l.take i)) hold (n + 1 - i) (by omega) (by omega) (by omega) (by omega) (by rw [hzb]; omega) (by rw [hzb, hik]; exact growslice_fits hroom (by omega))
    rw [hik] at h
    rw [hkk, hG, hROW, hG]
    exact h
  have hGn : n + 1 ≤ G := by rw [hG]; exact grownCap_ge w _ _ _
  have hGm : G ≤ maxLen := by
    rw [hG]
    exact grownCap_le_maxLen w (n + 1) c 35 (by unfold maxLen; omega)
  have hzc : ∀ k, (Builtin.zeroCells (Value.agg #[.int .u64 0, .int .u64 0]).cells k).size = k * 2 := fun k => by
    simp [Builtin.zeroCells, Value.cells]
  have hRl : ROW.toList.length = G * 2 := by
    rw [hROW]
    simp only [Array.length_toList, Array.size_append, hzc, List.size_toArray, flat2_length, List.length_take]
    omega
  have hRt : ROW.toList.take (i * 2) = flat2 (l.take i) := by
    rw [hROW]
    have hl : (flat2 (l.take i)).length = i * 2 := by rw [flat2_length, List.length_take]; omega
    simp only [Array.toList_append, List.append_assoc]
    rw [List.take_append_of_le_length (by omega), List.take_of_length_le (by omega)]
  obtain ⟨cur1, hcur1⟩ : ∃ cur1 : List Value, cur1 = ROW.toList.take (i * 2) ++ x.cells ++ ROW.toList.drop (i * 2 + x.cells.length) := ⟨_, rfl⟩
  obtain ⟨cur2, hcur2⟩ : ∃ cur2 : List Value, cur2 = cur1.take ((i + 1) * 2) ++ flat2 (l.drop i) ++ cur1.drop ((i + 1) * 2 + (flat2 (l.drop i)).length) := ⟨_, rfl⟩
  obtain ⟨k1, k2, k3⟩ := new_cells x i n G l hn (by omega) ROW.toList cur1 cur2 hRt hRl hGn hcur1 hcur2
  have hdl : (flat2 (l.drop i)).length = (n - i) * 2 := by rw [flat2_length, List.length_drop, hn]
  have hcpA : ∀ (W : World), W.heap = w.heap.push (.cells ROW 35) → ∀ ty dc, (Builtin.copy_ #[28, 28] ty #[.slice (some ⟨w.heap.size, i * 2, none⟩) (n + 1 - i) dc, .slice (some ⟨vb, 0, none⟩) 1 1]).run Tryd.prog W = .ok (goInt 1) (W.setRow w.heap.size cur1.toArray) := fun W hW ty dc => by
    have hv2 : Blk W vb tV #[.int .u64 x.key, .int .u64 x.val] := by
      show W.heap[vb]? = _
      rw [hW, Array.getElem?_push_lt hvw, ← Array.getElem?_eq_getElem hvw]
      exact hv
    have h := run_copy_rowK (P := Tryd.prog) W 28 28 ty 35 w.heap.size (i * 2) (n + 1 - i) dc ⟨vb, 0, none⟩ 1 1 ROW 35 x.cells 1 2 Tryd.underlying28 size_pair
      (by rw [hW]; simp) (by simp only [Nat.min_def]; split <;> omega) rfl (fun j v hj => by
        rw [Addr.add_lit, Nat.zero_add, hv2.cell]
        match j, hj with
        | 0, hj => exact hj
        | 1, hj => exact hj
        | j + 2, hj => simp [Pr2.cells] at hj) (by have := hRl; rw [Array.length_toList] at this; show i * 2 + 2 ≤ ROW.size; omega) (fun u hu => by simp [Pr2.cells] at hu; rcases hu with rfl | rfl <;> rfl)
    rw [← hcur1] at h
    exact h
  have hcpB : ∀ (W : World), W.heap[w.heap.size]? = some (.cells cur1.toArray 35 (0, 0)) → W.heap[g]? = some (.cells cur t (0, 0)) → ∀ ty dc sc, (Builtin.copy_ #[28, 28] ty #[.slice (some ⟨w.heap.size, (i + 1) * 2, none⟩) (n - i) dc, .slice (some ⟨g, i * 2, none⟩) (n - i) sc]).run Tryd.prog W = .ok (goInt ((n - i : Nat) : Int)) (W.setRow w.heap.size cur2.toArray) := fun W hW1 hW2 ty dc sc => by
    have hgW : Blk W g t cur := hW2
    have h := run_copy_rowK (P := Tryd.prog) W 28 28 ty 35 w.heap.size ((i + 1) * 2) (n - i) dc ⟨g, i * 2, none⟩ (n - i) sc cur1.toArray 35 (flat2 (l.drop i)) (n - i) 2 Tryd.underlying28 size_pair
      hW1 (by simp only [Nat.min_def]; split <;> omega) hdl (fun j v hj => by
        rw [Addr.add_lit, hgW.cell, ← hg.cell]
        refine hcell _ v ?_
        rw [← flat2_drop l i (by omega), List.getElem?_drop] at hj
        exact hj) (by simp [k3, hdl]; omega) (flat2_one _)
    rw [← hcur2] at h
    exact h
  have hz2 : ¬ ((i : Int) = (n : Int)) := by omega
  have hz3 : (c : Int) < (n : Int) + 1 := by omega
  have hin : i ≤ n := by omega
  have hGi : ¬ (G = i) := by omega
  have hGim : ¬ (G = i + 1) := by omega
  have hci : ¬ (c = i) := by omega
  have hb3 : (i : Int) ≤ (n : Int) := by omega
  have mixed : Tryd.prog.follows .mixedOrders = true := by kernel_rfl
  have hw1 : IntKind.i64.wrap ((i : Int) + 1) = (i : Int) + 1 := by rw [IntKind.wrap_i64]; omega
  have hb1 : (0 : Int) ≤ (i : Int) + 1 := by omega
  have htn : ((i : Int) + 1).toNat = i + 1 := by omega
  have HX := Lib.hid (And.intro hg (And.intro k1 (And.intro k2 (And.intro hGn (And.intro hGm hgw)))))
  have hE1 : ((w.alloc (.cells ROW 35)).drew).heap = w.heap.push (.cells ROW 35) := rfl
  have hE2 : (w.drew.alloc (.cells ROW 35)).heap = w.heap.push (.cells ROW 35) := rfl
  have hcpC := hcpB ((w.alloc (.cells ROW 35)).drew.setRow w.heap.size cur1.toArray).drew
    (setRow_heap _ _ _ _ _ _ (heap_alloc_new w _)) ((setRow_other _ _ _ _ (Nat.ne_of_lt hgw)).trans ((Below.heap_alloc w _ g hgw).trans hg))
  clear hcell hcpB hdl hcur1 hcur2 k1 k2 k3 hcl hg hv hRt hRl hzc hGn hGm hROW hG hold hik hkk hgw hvw
  go_enter Tryd.func28, Tryd.ntmps28
  go_wp2_with (first
    | (at_builtin; refine Lib.wpList_append_run _ rfl _ _ _ _ rfl _ _ rfl rfl _ _ (hrz _) ?_)
    | (at_builtin; refine wpList_copy_runI _ rfl _ _ 28 28 rfl _ _ rfl rfl (hcpA _ rfl _ _) ?_))
  go_region_law_o (refine step_copy_runI rfl _ _ 28 28 rfl (.slice (some ⟨w.heap.size, (i + 1) * 2, none⟩) (n - i) (G - (i + 1))) (.slice (some ⟨g, i * 2, none⟩) (n - i) (c - i)) (by simp [Act.eval, Act.put]) (by simp [Act.eval, Act.put]) (hcpC _ _ _) ?_)
  go_wp2
  go_ret
  obtain ⟨q1, q2, q3, q4, q5, q6⟩ := HX.out
  have l1 : l.length = n := hn
  refine ⟨_, rfl, ⟨?_, .inr ⟨w.heap.size, G, cur2.toArray, rfl, hbase, ?_, q4, q5, by simpa using q3, by simpa using q2⟩⟩, ?_⟩
  · rw [flat2_length, putIn_length _ _ _ (by omega), l1]
  · exact setRow_heap _ _ _ _ _ _ (setRow_heap _ _ _ _ _ _ (heap_alloc_new w _))
  · exact ⟨below_setRow (below_setRow ((Below.refl _ _).alloc (Nat.le_refl _) _).drew (Nat.le_refl _) _).drew (Nat.le_refl _) _, rfl⟩
end Go.Proofs.YtfnnfgiflhpefaaDoor
