/-
  slices.Delete of one pair, and Delete, by contract.
-/
import Derived.Test.YtfnnfgiflhpefaaDoorPut
import Derived.Deep.RegionLaw
namespace Go.Proofs.YtfnnfgiflhpefaaDoor
open Go.RowKit Go.Lib

theorem zero_pair : ∀ w : World, (zeroValue 35).run Tryd.prog w = .ok (.agg #[.int .u64 0, .int .u64 0]) w := by intro w; kernel_rfl
theorem run_clear_pair (w : World) (g o c : Nat) (ty t : TypeId) (cur : Array Value) (hg : Blk w g t cur) (ho : o + 2 ≤ cur.size) :
    (Builtin.clear_ #[28] ty #[.slice (some ⟨g, o, none⟩) 1 c]).run Tryd.prog w = .ok (.tuple #[]) (w.setRow g (cur.toList.take o ++ [Value.int .u64 0, Value.int .u64 0] ++ cur.toList.drop (o + 2)).toArray) := by
  have hst := run_storeCells_at Tryd.prog g o t [.int .u64 0, .int .u64 0] 0 cur w hg (by simpa using ho) (by intro u hu; simp at hu; rcases hu with rfl | rfl <;> rfl)
  have hz : (Builtin.zeroCells (Value.agg #[.int .u64 0, .int .u64 0]).cells 1).toList = [.int .u64 0, .int .u64 0] := by kernel_rfl
  simp only [Nat.add_zero] at hst
  simp [Builtin.clear_, run_underlying Tryd.underlying28, hz, hst]

/-- What the append and the clearing leave. -/
theorem cut_cells (i n : Nat) (l : List Pr2) (hn : l.length = n) (hi : i < n) (cur cur1 cur2 : List Value) (hc : cur.take (n * 2) = flat2 l) (hlen : n * 2 ≤ cur.length)
    (h1 : cur1 = cur.take (i * 2) ++ flat2 (l.drop (i + 1)) ++ cur.drop (i * 2 + (flat2 (l.drop (i + 1))).length)) (h2 : cur2 = cur1.take ((n - 1) * 2) ++ [.int .u64 0, .int .u64 0] ++ cur1.drop ((n - 1) * 2 + 2)) :
    cur2.take ((n - 1) * 2) = flat2 (l.take i ++ l.drop (i + 1)) ∧ cur2.length = cur.length ∧ cur1.length = cur.length := by
  have hd : (flat2 (l.drop (i + 1))).length = (n - (i + 1)) * 2 := by rw [flat2_length, List.length_drop, hn]
  have hti : cur.take (i * 2) = flat2 (l.take i) := by
    rw [← flat2_take l i (by omega), ← hc, List.take_take]
    congr 1
    omega
  have hl1 : cur1.length = cur.length := by
    rw [h1]
    simp [hd]
    omega
  have e1 : cur1.take ((n - 1) * 2) = flat2 (l.take i ++ l.drop (i + 1)) := by
    have hA : (flat2 (l.take i) ++ flat2 (l.drop (i + 1))).length = (n - 1) * 2 := by rw [List.length_append, flat2_length, List.length_take, hn, hd]; omega
    rw [h1, hti, flat2_app]
    exact List.take_left' hA
  refine ⟨?_, ?_, hl1⟩
  · rw [h2, e1, List.append_assoc]
    have hA : (flat2 (l.take i ++ l.drop (i + 1))).length = (n - 1) * 2 := by rw [flat2_length, List.length_append, List.length_take, List.length_drop, hn]; omega
    exact List.take_left' hA
  · rw [h2]
    simp [hl1]
    omega

theorem step_append_runI {P : Program} {ops : Array Oper} {o : Oper} {a : Act} {w : World} {K : Act → World → Prop} {Q : Exit → Act → World → Prop} {E : Prop}
    (hg : o.guard = none) (d x : Operand) (dT sT : TypeId) (hop : o.op = Op.call { callee := Callee.builtin Builtin.append, args := #[d, x], argTypes := #[dT, sT] })
    (v u : Value) (hd : a.eval d = v) (hx : a.eval x = u) {v' : Value} {w' : World} (hr : (Builtin.append_ #[dT, sT] o.type #[v, u]).run P w = .ok v' w') (hK : K (a.put o.dst v') w') :
    if Region.wanted o (yielded ops a.tmps) = true then Oper.wp P o a w K Q else E := by
  have hw : Region.wanted o (yielded ops a.tmps) = true := by simp [Region.wanted, hg]
  rw [if_pos hw]
  unfold Oper.wp
  simp [execOp, hop, resolve, invoke, builtin, hd, hx, hr, Result.andThen]
  exact hK

set_option maxHeartbeats 4000000 in
set_option maxRecDepth 100000 in
theorem sdelete_c (g n c i : Nat) (cur : Array Value) (l : List Pr2) (w : World) (hi : i < n) (hnc : n ≤ c) (hc63 : c ≤ 9223372036854775807) (hn : l.length = n)
    (hg : Blk w g 35 cur) (hcs : cur.size = c * 2) (hcl : cur.toList.take (n * 2) = flat2 l) :
    Calls Tryd.prog 30 #[.slice (some ⟨g, 0, none⟩) n c, .int .i64 i, .int .i64 ((i : Int) + 1)] w fun e w' =>
      e = .returned (.slice (some ⟨g, 0, none⟩) (n - 1) c) ∧ (∃ cur', Blk w' g 35 cur' ∧ cur'.size = c * 2 ∧ cur'.toList.take ((n - 1) * 2) = flat2 (l.take i ++ l.drop (i + 1))) ∧ But g w w' := by
  obtain ⟨i0, hi0, hz0, hzs, hzb⟩ := info_pair
  obtain ⟨cur1, hcur1⟩ : ∃ cur1 : List Value, cur1 = cur.toList.take (i * 2) ++ flat2 (l.drop (i + 1)) ++ cur.toList.drop (i * 2 + (flat2 (l.drop (i + 1))).length) := ⟨_, rfl⟩
  obtain ⟨cur2, hcur2⟩ : ∃ cur2 : List Value, cur2 = cur1.take ((n - 1) * 2) ++ [.int .u64 0, .int .u64 0] ++ cur1.drop ((n - 1) * 2 + 2) := ⟨_, rfl⟩
  obtain ⟨k1, k2, k3⟩ := cut_cells i n l hn hi cur.toList cur1 cur2 hcl (by simp [hcs]; omega) hcur1 hcur2
  have hdl : (flat2 (l.drop (i + 1))).length = (n - (i + 1)) * 2 := by rw [flat2_length, List.length_drop, hn]
  have hcell : ∀ j v, (flat2 (l.drop (i + 1)))[j]? = some v → w.cell? ⟨g, (i + 1) * 2 + j, none⟩ = some v := by
    intro j v hj
    rw [hg.cell, ← Array.getElem?_toList]
    have hjl : j < (n - (i + 1)) * 2 := by
      have := (List.getElem?_eq_some_iff.1 hj).1
      omega
    rw [← flat2_drop l (i + 1) (by omega), ← hcl, List.getElem?_drop, List.getElem?_take] at hj
    rw [if_pos (by omega)] at hj
    exact hj
  -- where the rest begins
  obtain ⟨ao, hao⟩ : ∃ ao : Nat, ao = if c = i + 1 then 0 else (i + 1) * 2 := ⟨_, rfl⟩
  have hap : ∀ ty sc, (Builtin.append_ #[28, 28] ty #[.slice (some ⟨g, 0, none⟩) i c, .slice (some ⟨g, ao, none⟩) (n - (i + 1)) sc]).run Tryd.prog w.drew = .ok (.slice (some ⟨g, 0, none⟩) (n - 1) c) (w.drew.setRow g cur1.toArray) := fun ty sc => by
    have h := run_append_room (P := Tryd.prog) w.drew 28 ty 35 i0 Tryd.underlying28 hi0 g i c cur hg ⟨g, ao, none⟩ (n - (i + 1)) sc (flat2 (l.drop (i + 1))) (by rw [hzs, hdl]) (fun j u hj => by
        rw [Addr.add_lit]
        have hjl : j < (n - (i + 1)) * 2 := by
          have := (List.getElem?_eq_some_iff.1 hj).1
          omega
        rw [hao, if_neg (by omega)]
        exact hcell j u hj) (flat2_one _) (by omega) (by rw [hzs, hdl, hcs]; omega)
    rw [hzs, ← hcur1, show i + (n - (i + 1)) = n - 1 by omega] at h
    exact h
  have hcr : ∀ ty, (Builtin.clear_ #[28] ty #[.slice (some ⟨g, (n - 1) * 2, none⟩) 1 (c - (n - 1))]).run Tryd.prog (w.drew.setRow g cur1.toArray) = .ok (.tuple #[]) ((w.drew.setRow g cur1.toArray).setRow g cur2.toArray) := fun ty => by
    have h := run_clear_pair (w.drew.setRow g cur1.toArray) g ((n - 1) * 2) (c - (n - 1)) ty 35 cur1.toArray (setRow_heap _ _ _ _ _ _ hg) (by simp [k3, hcs]; omega)
    rw [← hcur2] at h
    exact h
  have mixed : Tryd.prog.follows .mixedOrders = true := by kernel_rfl
  have hw1 : IntKind.i64.wrap ((i : Int) + 1) = (i : Int) + 1 := by rw [IntKind.wrap_i64]; omega
  have hb1 : (0 : Int) ≤ (i : Int) + 1 := by omega
  have htn : ((i : Int) + 1).toNat = i + 1 := by omega
  have hin : (i : Int) + 1 ≤ (n : Int) := by omega
  have hii : (i : Int) ≤ (i : Int) + 1 := by omega
  have hne : ¬ ((i : Int) = (i : Int) + 1) := by omega
  have HX := Lib.hid (And.intro hg (And.intro k1 (And.intro k2 (And.intro k3 hcs))))
  have e1 : n - (n - 1) = 1 := by omega
  have hic : i ≤ c := by omega
  have hi1c : i + 1 ≤ n := hi
  have hci : (c = i + 1 ∧ ao = 0) ∨ (¬ c = i + 1 ∧ ao = (i + 1) * 2) := by
    rw [hao]
    by_cases h : c = i + 1
    · exact .inl ⟨h, if_pos h⟩
    · exact .inr ⟨h, if_neg h⟩
  clear hcell hdl hcur1 hcur2 k1 k2 k3 hcl hcs hg hao
  rcases hci with ⟨hci, rfl⟩ | ⟨hci, rfl⟩
  · obtain rfl : n = i + 1 := by omega
    subst hci
    have hz : i + 1 - 1 = i := by omega
    have hz2 : i + 1 - (i + 1) = 0 := by omega
    have hz3 : i + 1 - i = 1 := by omega
    rw [hz] at hap hcr e1
    rw [hz2] at hap
    rw [hz3] at hcr
    rw [hz]
    go_enter Tryd.func30, Tryd.ntmps30
    go_wp2_with fail
    go_region_law_o (refine step_append_runI rfl (.tmp 22) (.tmp 25) _ _ rfl (.slice (some ⟨g, 0, none⟩) i (i + 1)) (.slice (some ⟨g, 0, none⟩) 0 0) (by simp [Act.eval, Act.put]) (by simp [Act.eval, Act.put]) (hap _ _) ?_)
    go_wp2_with fail
    go_ret
    obtain ⟨q1, q2, q3, q4, q5⟩ := HX.out
    refine ⟨rfl, ⟨cur2.toArray, setRow_heap _ _ _ _ _ _ (setRow_heap _ _ _ _ _ _ q1), by simp [q3, q5], by simpa using q2⟩, ((But.of (below_drew w)).setRow _).setRow _⟩
  · go_enter Tryd.func30, Tryd.ntmps30
    go_wp2_with fail
    go_region_law_o (refine step_append_runI rfl (.tmp 22) (.tmp 25) _ _ rfl (.slice (some ⟨g, 0, none⟩) i c) (.slice (some ⟨g, (i + 1) * 2, none⟩) (n - (i + 1)) (c - (i + 1))) (by simp [Act.eval, Act.put]) (by simp [Act.eval, Act.put]) (hap _ _) ?_)
    go_wp2_with fail
    go_ret
    obtain ⟨q1, q2, q3, q4, q5⟩ := HX.out
    refine ⟨rfl, ⟨cur2.toArray, setRow_heap _ _ _ _ _ _ (setRow_heap _ _ _ _ _ _ q1), by simp [q3, q5], by simpa using q2⟩, ((But.of (below_drew w)).setRow _).setRow _⟩

set_option maxHeartbeats 1000000 in
theorem delete_hit (S : Nat → Prop) (f : Nat) (most : Int) (l : List Pr2) (key : Int) (w : World) (H : PF w S f most l) (hs : (look l key).isSome = true) :
    Calls Tryd.prog 17 #[.pointer (some ⟨f, 0, none⟩), .int .u64 key] w fun e w' => e = .returned (.bool true) ∧ PF w' S f most (delP key l) ∧ Chg S w w' := by
  have HF := Lib.hid (find_c S f most l key w H)
  have HH := Lib.hid (And.intro H hs)
  clear H hs
  go_enter Tryd.func17, Tryd.ntmps17
  go_wp2_with fail
  refine HF.out.mono ?_
  rintro e w1 ⟨k, k1, k2, k3, rfl, k5⟩
  have H1 := HH.out.1.below k5
  obtain ⟨v, h1, h2, h3⟩ := H1.ex
  obtain ⟨p, c, rfl, hn, hnc, _, _, _⟩ := owns_row h2
  have c1 := h1.cell 1
  have f1 := h1.free 1
  cases hh : hitAt l key k with
  | true =>
    obtain ⟨hk, hlk⟩ := hit_look k1 k2 hh
    have hdel := delP_hit k1 k2 hh
    obtain ⟨⟨e0, e1⟩ | ⟨g, cap, cur, e0, _, hg, hc, hm, hsz, ht⟩⟩ := And.intro h2.2 trivial
    · omega
    · injection e0 with e1 e2 e3
      subst e1 e3
      have hsm := H1.small
      have HD := Lib.hid (sdelete_c g l.length c k cur l w1 hk hc (by unfold maxLen at hm; omega) rfl hg hsz ht)
      have HK := Lib.hid (And.intro h1 (And.intro hdel (And.intro h3 (And.intro hm (And.intro H1 (And.intro hc k5))))))
      have hw1 : IntKind.i64.wrap ((k : Int) + 1) = (k : Int) + 1 := by rw [IntKind.wrap_i64]; omega
      clear h2 h3 hlk k2 k3 k5 H1 h1 hg hdel hsz ht
      go_wp2_with fail
      refine HD.out.mono ?_
      rintro e w3 ⟨rfl, ⟨cur', g1, g2, g3⟩, hbut⟩
      obtain ⟨h1, hdel, h3, hm, H1, hc, k5⟩ := HK.out
      have hF3 : Blk w3 f 63 #[.int .i64 most, .slice (some ⟨g, 0, none⟩) l.length c] := h1.but hbut fun e => (h3 g rfl).2 e.symm
      have q1 := hF3.cell 1
      have q2 := hF3.free 1
      have HL := Lib.hid (And.intro hF3 (And.intro g1 (And.intro g2 (And.intro g3 hbut))))
      clear h1 hdel h3 hm H1 hc k5 hF3 g1 g2 g3 hbut c1 f1
      go_wp2_with fail
      go_ret
      obtain ⟨hF3, g1, g2, g3, hbut⟩ := HL.out
      obtain ⟨h1, hdel, h3, hm, H1, hc, k5⟩ := HK.out
      have hlen : (delP key l).length = l.length - 1 := by rw [delP_length, if_pos HH.out.2]
      refine ⟨rfl, ⟨⟨_, hF3.set_ 1 _, ?_, h3⟩, H1.own, fun i hi => ?_, delP_sort H1.sorted, by omega⟩, ?_⟩
      · rw [hlen, hdel]
        refine ⟨?_, .inr ⟨g, c, cur', rfl, Nat.zero_le _, (g1.far (p := ⟨f, 1, none⟩) (h3 g rfl).2 _), by omega, hm, g2, g3⟩⟩
        rw [flat2_length, List.length_append, List.length_take, List.length_drop]
        omega
      · have := H1.lt i hi
        have := hbut.size
        simp [World.setCell]
        omega
      · refine Chg.trans (S' := S) (Chg.of k5) ?_ fun i hi => .inl hi
        refine Chg.set_ ?_ H1.own _ _
        exact (Chg.but hbut).mono fun i _ hi => hi ▸ (h3 g rfl).1
  | false =>
    have := miss_look HH.out.1.sorted k1 k2 k3 hh
    have h5 := HH.out.2
    rw [this] at h5
    cases h5

theorem delete_none (S : Nat → Prop) (f : Nat) (most : Int) (l : List Pr2) (key : Int) (w : World) (H : PF w S f most l) (hs : look l key = none) :
    Calls Tryd.prog 17 #[.pointer (some ⟨f, 0, none⟩), .int .u64 key] w fun e w' => e = .returned (.bool false) ∧ Below w.heap.size w w' := by
  have HF := Lib.hid (find_c S f most l key w H)
  have HH := Lib.hid (And.intro H hs)
  clear H hs
  go_enter Tryd.func17, Tryd.ntmps17
  go_wp2_with fail
  refine HF.out.mono ?_
  rintro e w1 ⟨k, k1, k2, k3, rfl, k5⟩
  cases hh : hitAt l key k with
  | true =>
    obtain ⟨hk, hlk⟩ := hit_look k1 k2 hh
    rw [HH.out.2] at hlk
    cases hlk
  | false =>
    have HK := Lib.hid k5
    clear k2 k3 k5
    go_wp2_with fail
    go_ret
    exact ⟨rfl, HK.out⟩

/-- All of Delete. -/
theorem delete_c (S : Nat → Prop) (f : Nat) (most : Int) (l : List Pr2) (key : Int) (w : World) (H : PF w S f most l) :
    Calls Tryd.prog 17 #[.pointer (some ⟨f, 0, none⟩), .int .u64 key] w fun e w' => e = .returned (.bool (look l key).isSome) ∧ PF w' S f most (delP key l) ∧ Chg S w w' := by
  cases hs : look l key with
  | some v =>
    have h1 : (look l key).isSome = true := by rw [hs]; rfl
    refine (delete_hit S f most l key w H h1).mono ?_
    rintro e w' ⟨rfl, h2, h3⟩
    exact ⟨rfl, h2, h3⟩
  | none =>
    refine (delete_none S f most l key w H hs).mono ?_
    rintro e w' ⟨rfl, h2⟩
    rw [delP_none hs]
    exact ⟨rfl, H.below h2, Chg.of h2⟩
end Go.Proofs.YtfnnfgiflhpefaaDoor
