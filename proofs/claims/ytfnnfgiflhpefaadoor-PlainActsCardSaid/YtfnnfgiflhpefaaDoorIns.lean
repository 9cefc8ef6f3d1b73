/-
  slices.Insert of one pair: the walks (turned from the kit's SlicesInsert to elements of two cells).
-/
import Derived.Test.YtfnnfgiflhpefaaDoorCopyK
import Derived.Shelf.Spec.SlicesInsert
import Derived.Lib.AppendZerosOnto
import Derived.Lib.Overlaps
namespace Go.Proofs.YtfnnfgiflhpefaaDoor
open Go.RowKit Go.Lib

theorem size_pair : (Tryd.prog.info? 35).map (·.size) = some 2 := by kernel_rfl
theorem shape_blk {w : World} {g : Nat} {t : TypeId} {cs : Array Value} (h : Blk w g t cs) : w.shape? g = some (t, cs.size) := by
  have h' : w.heap[g]? = some (.cells cs t (0, 0)) := h
  unfold World.shape?
  rw [h']
theorem overlaps_run (w : World) (g vb : Nat) (t tV : TypeId) (cur : Array Value) (k v : Int) (hg : Blk w g t cur) (hv : Blk w vb tV #[.int .u64 k, .int .u64 v]) (hne : vb ≠ g) (hc : cur.size ≠ 0) (off lb cb : Nat) :
    (callFunc 36 #[.slice (some ⟨vb, 0, none⟩) 1 1, .slice (some ⟨g, off, none⟩) lb cb]).run Tryd.prog w = .ok (.value (.bool false)) w := by
  rw [run_callFunc_extern Tryd.func36 (by kernel_rfl) (by kernel_rfl) (by kernel_rfl) (e := Extern.SlicesOverlaps.overlaps #[28, 28] #[4]) (by kernel_rfl),
    Lib.run_overlaps_apart w 28 4 35 Tryd.underlying28 2 Tryd.sizeOf35 ⟨vb, 0, none⟩ ⟨g, off, none⟩ 1 1 lb cb hne tV t _ _ (shape_blk hv) (shape_blk hg) hc (hv.free 0) (hv.free _)]
  rfl

theorem But.setRow {b : Nat} {w w1 : World} (h : But b w w1) (cs : Array Value) : But b w (w1.setRow b cs) :=
  h.trans ⟨rfl, rfl, rfl, by simp [World.setRow], fun k _ hne => setRow_other _ _ _ _ hne⟩

set_option maxHeartbeats 4000000 in
set_option maxRecDepth 100000 in
/-- There is room, and the place is not the end: in place. -/
theorem insert_shift (g n c i vb : Nat) (t tV : TypeId) (cur : Array Value) (l : List Pr2) (x : Pr2) (w : World) (hi : i < n) (hroom : n + 1 ≤ c) (hc63 : c ≤ 9223372036854775807) (hvb : vb ≠ g) (hn : l.length = n)
    (hg : Blk w g t cur) (hcs : cur.size = c * 2) (hcl : cur.toList.take (n * 2) = flat2 l) (hv : Blk w vb tV #[.int .u64 x.key, .int .u64 x.val]) :
    Calls Tryd.prog 28 #[.slice (some ⟨g, 0, none⟩) n c, .int .i64 i, .slice (some ⟨vb, 0, none⟩) 1 1] w fun e w' =>
      e = .returned (.slice (some ⟨g, 0, none⟩) (n + 1) c) ∧ (∃ cur', Blk w' g t cur' ∧ cur'.size = c * 2 ∧ cur'.toList.take ((n + 1) * 2) = flat2 (putIn x i l)) ∧ But g w w' := by
  have hov := overlaps_run w g vb t tV cur x.key x.val hg hv hvb (by omega)
  obtain ⟨cur1, hcur1⟩ : ∃ cur1 : List Value, cur1 = cur.toList.take ((i + 1) * 2) ++ flat2 (l.drop i) ++ cur.toList.drop ((i + 1) * 2 + (flat2 (l.drop i)).length) := ⟨_, rfl⟩
  obtain ⟨cur2, hcur2⟩ : ∃ cur2 : List Value, cur2 = cur1.take (i * 2) ++ x.cells ++ cur1.drop (i * 2 + x.cells.length) := ⟨_, rfl⟩
  obtain ⟨k1, k2, k3⟩ := shift_cells x i n l hn (by omega) cur.toList cur1 cur2 hcl (by simp [hcs]; omega) hcur1 hcur2
  have hdl : (flat2 (l.drop i)).length = (n - i) * 2 := by rw [flat2_length, List.length_drop, hn]
  have hcell : ∀ j v, (flat2 (l.drop i))[j]? = some v → w.cell? ⟨g, i * 2 + j, none⟩ = some v := by
    intro j v hj
    rw [hg.cell, ← Array.getElem?_toList]
    have hjl : j < (n - i) * 2 := by
      have := (List.getElem?_eq_some_iff.1 hj).1
      omega
    rw [← flat2_drop l i (by omega), ← hcl, List.getElem?_drop, List.getElem?_take] at hj
    rw [if_pos (by omega)] at hj
    exact hj
  have hcp1 : ∀ ty dc sc, (Builtin.copy_ #[28, 28] ty #[.slice (some ⟨g, (i + 1) * 2, none⟩) (n - i) dc, .slice (some ⟨g, i * 2, none⟩) (n + 1 - i) sc]).run Tryd.prog w.drew = (.ok (goInt ((n - i : Nat) : Int)) (w.drew.setRow g cur1.toArray)) := fun ty dc sc => by
    have h := run_copy_rowK (P := Tryd.prog) w.drew 28 28 ty 35 g ((i + 1) * 2) (n - i) dc ⟨g, i * 2, none⟩ (n + 1 - i) sc cur t (flat2 (l.drop i)) (n - i) 2 Tryd.underlying28 size_pair
      hg (by simp only [Nat.min_def]; split <;> omega) hdl (fun j v hj => by rw [Addr.add_lit]; exact hcell j v hj) (by omega) (flat2_one _)
    rw [← hcur1] at h
    exact h
  have hcp2 : ∀ ty dc, (Builtin.copy_ #[28, 28] ty #[.slice (some ⟨g, i * 2, none⟩) (n + 1 - i) dc, .slice (some ⟨vb, 0, none⟩) 1 1]).run Tryd.prog (w.drew.setRow g cur1.toArray) = .ok (goInt 1) ((w.drew.setRow g cur1.toArray).setRow g cur2.toArray) := fun ty dc => by
    have hv2 : Blk (w.drew.setRow g cur1.toArray) vb tV #[.int .u64 x.key, .int .u64 x.val] := (setRow_other _ _ _ _ hvb).trans hv
    have h := run_copy_rowK (P := Tryd.prog) (w.drew.setRow g cur1.toArray) 28 28 ty 35 g (i * 2) (n + 1 - i) dc ⟨vb, 0, none⟩ 1 1 cur1.toArray t x.cells 1 2 Tryd.underlying28 size_pair
      (setRow_heap _ _ _ _ _ _ hg) (by simp only [Nat.min_def]; split <;> omega) rfl (fun j v hj => by
        rw [Addr.add_lit, Nat.zero_add, hv2.cell]
        match j, hj with
        | 0, hj => exact hj
        | 1, hj => exact hj
        | j + 2, hj => simp [Pr2.cells] at hj) (by show i * 2 + 2 ≤ cur1.toArray.size; simp [k3, hcs]; omega) (fun u hu => by simp [Pr2.cells] at hu; rcases hu with rfl | rfl <;> rfl)
    rw [← hcur2] at h
    exact h
  have hz2 : ¬ ((i : Int) = (n : Int)) := by omega
  have hin : i ≤ n := by omega
  have hb2 : ¬ (c = i + 1) := by omega
  have hb3 : (i : Int) ≤ (n : Int) + 1 := by omega
  have hb4 : ¬ (c = i) := by omega
  have mixed : Tryd.prog.follows .mixedOrders = true := by kernel_rfl
  have hw1 : IntKind.i64.wrap ((i : Int) + 1) = (i : Int) + 1 := by rw [IntKind.wrap_i64]; omega
  have hb1 : (0 : Int) ≤ (i : Int) + 1 := by omega
  have htn : ((i : Int) + 1).toNat = i + 1 := by omega
  have HX := Lib.hid (And.intro hg (And.intro k1 (And.intro k2 (And.intro k3 hcs))))
  clear hcell hdl hcur1 hcur2 k1 k2 k3 hcl hcs hg hv
  go_enter Tryd.func28, Tryd.ntmps28
  go_wp2_with (simp only [hov])
  go_region_law_o (refine step_copy_runI rfl _ _ 28 28 rfl _ _ (by simp [Act.eval, Act.put]) (by simp [Act.eval, Act.put]) (hcp1 _ _ _) ?_)
  go_wp2_with (at_builtin; refine wpList_copy_runI _ rfl _ _ 28 28 rfl _ _ rfl rfl (hcp2 _ _) ?_)
  go_ret
  obtain ⟨q1, q2, q3, q4, q5⟩ := HX.out
  refine ⟨rfl, ⟨cur2.toArray, ?_, ?_, ?_⟩, ?_⟩
  · exact setRow_heap _ _ _ _ _ _ (setRow_heap _ _ _ _ _ _ q1)
  · simp [q3, q5]
  · simpa using q2
  · exact ((But.of (below_drew w)).setRow _).setRow _

theorem info_pair : ∃ i, Tryd.prog.info? 35 = some i ∧ i.zero = some (.agg #[.int .u64 0, .int .u64 0]) ∧ i.size = 2 ∧ i.bytes = 16 := by
  have h : (Tryd.prog.info? 35).map (fun i => (i.zero, i.size, i.bytes)) = some (some (.agg #[.int .u64 0, .int .u64 0]), 2, 16) := by kernel_rfl
  obtain ⟨i, hi, h2⟩ := Option.map_eq_some_iff.1 h
  injection h2 with h3 h4
  injection h4 with h5 h6
  exact ⟨i, hi, h3, h5, h6⟩

set_option maxHeartbeats 1000000 in
set_option maxRecDepth 100000 in
/-- At the end: an append. -/
theorem insert_end (p : Option Addr) (n c vb base : Nat) (tV : TypeId) (l : List Pr2) (x : Pr2) (w : World) (hn : l.length = n) (hb : n ≤ 1000) (hbase : base ≤ w.heap.size)
    (hown : w.ownsRow base 35 2 (.slice p n c) n (flat2 l)) (hv : Blk w vb tV #[.int .u64 x.key, .int .u64 x.val]) :
    Calls Tryd.prog 28 #[.slice p n c, .int .i64 n, .slice (some ⟨vb, 0, none⟩) 1 1] w fun e w' =>
      ∃ v', e = .returned v' ∧ w'.ownsRow base 35 2 v' (n + 1) (flat2 (putIn x n l)) ∧ w.grownBy w' (Value.slice p n c).ownBlock ∧ (v'.ownBlock = (Value.slice p n c).ownBlock ∨ v'.ownBlock = some w.heap.size) := by
  obtain ⟨i0, hi0, hz0, hz1, hz2⟩ := info_pair
  have hrun : ∀ ty, ∃ v' w', (Builtin.append_ #[28, 28] ty #[.slice p n c, .slice (some ⟨vb, 0, none⟩) 1 1]).run Tryd.prog w = .ok v' w' ∧ w'.ownsRow base 35 2 v' (n + 1) (flat2 l ++ x.cells) ∧ w.grownBy w' (Value.slice p n c).ownBlock ∧ (v'.ownBlock = (Value.slice p n c).ownBlock ∨ v'.ownBlock = some w.heap.size) := fun ty => by
    obtain ⟨v', w', h1, h2, h3, _, h4⟩ := run_append_own_at (P := Tryd.prog) w base 28 ty 35 i0 _ 2 16 Tryd.underlying28 hi0 hz0 hz1 hz2 rfl (by omega) _ n (flat2 l) hown ⟨vb, 0, none⟩ 1 1 x.cells rfl (fun j u hj => by
      rw [Addr.add_lit, Nat.zero_add, hv.cell]
      match j, hj with
      | 0, hj => exact hj
      | 1, hj => exact hj
      | j + 2, hj => simp [Pr2.cells] at hj) (fun u hu => by simp [Pr2.cells] at hu; rcases hu with rfl | rfl <;> rfl) (by unfold maxLen; omega) (by omega) hbase
    exact ⟨v', w', h1, h2, h3, h4⟩
  obtain ⟨v', w', h1, h2, h3⟩ := hrun 28
  have hp : flat2 l ++ x.cells = flat2 (putIn x n l) := by
    rw [flat2_putIn, List.take_of_length_le (by omega), List.drop_eq_nil_of_le (by omega)]
    simp [flat2]
  rw [hp] at h2
  have HX := Lib.hid (And.intro h2 h3)
  clear h2 h3 hrun hown hv hp
  go_enter Tryd.func28, Tryd.ntmps28
  cases p with
  | none =>
    go_wp2_with (at_builtin; refine Lib.wpList_append_run _ rfl _ _ _ _ rfl _ _ rfl rfl _ _ h1 ?_)
    go_ret
    exact ⟨_, rfl, HX.out.1, HX.out.2.1, HX.out.2.2⟩
  | some a =>
    go_wp2_with (at_builtin; refine Lib.wpList_append_run _ rfl _ _ _ _ rfl _ _ rfl rfl _ _ h1 ?_)
    all_goals (go_ret; exact ⟨_, rfl, HX.out.1, HX.out.2.1, HX.out.2.2⟩)
end Go.Proofs.YtfnnfgiflhpefaaDoor
