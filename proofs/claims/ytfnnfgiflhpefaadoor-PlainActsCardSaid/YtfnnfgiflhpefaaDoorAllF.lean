/-
  A function's iterator (plain.Func.All): its contract for every loop body that keeps all rows of cells but the caller's own.
-/
import Derived.Test.YtfnnfgiflhpefaaDoorSame
import Derived.RangeFuncNested
import Derived.RangeFuncBound
import Derived.RangeFuncCalls
import Derived.RangeFuncLeaves
import Derived.Shelf.Abstract
import Derived.Shelf.RegionOpen
import Derived.OwnWalkIn
import Derived.TacticsInMore
import Derived.LoopNIn
import Derived.LoopIn
namespace Go.Proofs.YtfnnfgiflhpefaaDoor
open Go.RowKit Go.Shelf Go.Lib
attribute [local go_sem] Oper.semAt_some

/-- What a round keeps: all rows of cells but the caller's own. -/
structure KeepC (X : Nat → Prop) (w w' : World) : Prop where
  size : w.heap.size ≤ w'.heap.size
  block : ∀ k o, w.heap[k]? = some o → o.isCells = true → ¬ X k → w'.heap[k]? = some o
theorem KeepC.refl (X : Nat → Prop) (w : World) : KeepC X w w := ⟨Nat.le_refl _, fun _ _ h _ _ => h⟩
theorem KeepC.trans {X : Nat → Prop} {a b c : World} (h : KeepC X a b) (k : KeepC X b c) : KeepC X a c :=
  ⟨Nat.le_trans h.size k.size, fun i o hi ho hx => k.block i o (h.block i o hi ho hx) ho hx⟩
theorem KeepC.grown {X : Nat → Prop} {w w' : World} {row : Option Nat} (h : w.grownBy w' row) (hr : ∀ k, row = some k → X k ∨ ∃ o : Obj, w.heap[k]? = some o ∧ o.isCells = false) : KeepC X w w' := by
  refine ⟨h.size, fun k o hk ho hx => ?_⟩
  have hlt : k < w.heap.size := (Array.getElem?_eq_some_iff.1 hk).1
  rw [h.block k hlt fun e => ?_]
  · exact hk
  · rcases hr k e.symm with c | ⟨o', ho', hc⟩
    · exact hx c
    · rw [hk] at ho'
      cases ho'
      rw [ho] at hc
      cases hc
theorem grown_below {w w' : World} (h : Below w.heap.size w w') : w.grownBy w' none := ⟨h.os, h.tape, h.output, h.size, fun k hk _ => h.block k hk⟩
theorem KeepC.below {X : Nat → Prop} {w w' : World} (h : Below w.heap.size w w') : KeepC X w w' := KeepC.grown (grown_below h) fun k e => by cases e
theorem keepC_b {X : Nat → Prop} (W : World) (l : Nat) (o o' : Obj) (h : W.heap[l]? = some o) (hc : o.isCells = false) : KeepC X W (W.putObj l o') :=
  KeepC.grown (grownBy_putObj' W l o') fun k e => by cases e; exact .inr ⟨o, h, hc⟩
theorem KeepC.blk {X : Nat → Prop} {w w' : World} (h : KeepC X w w') {g : Nat} {t : TypeId} {cs : Array Value} (hb : Blk w g t cs) (hx : ¬ X g) : Blk w' g t cs := h.block g _ hb rfl hx
theorem KeepC.owns {X : Nat → Prop} {w w' : World} (h : KeepC X w w') {B z n : Nat} {e : TypeId} {v : Value} {xs : List Value} (hw : w.ownsRow B e z v n xs) (hx : ∀ k, v.ownBlock = some k → ¬ X k) : w'.ownsRow B e z v n xs := by
  refine ⟨hw.1, ?_⟩
  rcases hw.2 with c | ⟨g, cap, cur, rfl, hb, hg, rest⟩
  · exact .inl c
  · exact .inr ⟨g, cap, cur, rfl, hb, h.block g _ hg rfl (hx g rfl), rest⟩
/-- A row of pairs and its cells, within a walk of the iterator. -/
theorem take_next {L : List Pr2} {i : Nat} (h : i < L.length) : L.take (i + 1) = L.take i ++ [L[i]] := by
  rw [List.take_add_one, List.getElem?_eq_getElem h]; rfl

set_option maxRecDepth 100000 in
set_option maxHeartbeats 2000000 in
theorem all1_c (n l Bn : Nat) (X : Nat → Prop) (S : Nat → Prop) (fb : Nat) (most : Int) (L : List Pr2) (J Jx : List Pr2 → World → Prop) (W : World) (hn : 1 ≤ n)
    (hJ : AbidesFrom W.heap.size J)
    (hY : ∀ pre x W1, J pre W1 → pre.length < L.length → YieldAt Fence.wide (n - 1) Tryd.prog l #[.int .u64 x.key, .int .u64 x.val] W1 fun e W' =>
      (e = .returned (.bool true) ∧ J (pre ++ [x]) W' ∧ KeepC X W1 W') ∨ (e = .returned (.bool false) ∧ Jx (pre ++ [x]) W'))
    (hBn : W.cell? ⟨Bn, 0, none⟩ = some (.pointer (some ⟨fb, 0, none⟩))) (hP : PF W S fb most L) (hX : ∀ k, X k → k < W.heap.size) (h0 : J [] W) :
    CallsIn Fence.wide n Tryd.prog 26 #[.func (.yield l) #[] #[], .pointer (some ⟨Bn, 0, none⟩)] W fun e W' => (∃ v, e = .returned v) ∧
      ((∃ ys, ys = L ∧ J ys W') ∨ (∃ pre, pre <+: L ∧ Jx pre W')) := by
  have hsm := hP.small
  have HP := Lib.hid (pairs_c S fb most L W hP)
  clear hP
  refine callsIn_of_wp Tryd.func26 rfl trivial ?_ rfl
  simp only [Tryd.ntmps26, List.size_toArray, List.length_cons, List.length_nil, Nat.reduceAdd, Nat.reduceSub, Array.replicate_succ, Array.replicate_zero, List.push_toArray, List.append_toArray, List.nil_append, List.cons_append]
  gi_wp2_with (refine ⟨trivial, ?_⟩; gi_at_call 8; refine (callsIn_wide.2 HP.out).mono ?_; rintro e w1 ⟨v1, rfl, o1, k1, b1⟩; obtain ⟨p1, c1, rfl, _⟩ := owns_row o1; have H1 := Lib.hid (And.intro o1 (And.intro k1 b1)); clear o1 k1 b1)
  have hrow := H1.out.1
  have hblk := H1.out.2.1
  have hJ1 : J [] w1 := hJ [] W w1 none h0 (grown_below H1.out.2.2) fun r e => by cases e
  have hJa : ∀ (s : List Pr2) (A : World) (o : Obj), J s A → J s (A.alloc o) := fun s A o h => hJ s A _ none h (World.grownBy_alloc A o none) fun r e => by cases e
  have HJ := Lib.hid hJa
  clear hJ hJa h0 hBn H1
  gi_loopw [8] (fun s8 wr => ∃ i : Nat, i ≤ L.length ∧ s8 = .int .i64 i ∧ J (L.take i) wr ∧ wr.ownsRow 0 35 2 (.slice p1 L.length c1) L.length (flat2 L)) (fun s8 _ => L.length - (RowKit.intOf s8).toNat)
  case atStart => exact ⟨0, Nat.zero_le _, rfl, hJ1, hrow⟩
  case round =>
    obtain ⟨i, hi, rfl, hJr, hO⟩ := hrel
    by_cases hlt : i < L.length
    · have hlt1 : (i : Int) < L.length := by omega
      obtain ⟨p2, c2, e2, _, _, _, hR, _⟩ := owns_row hO
      injection e2 with e3 _ e5
      subst e3 e5
      obtain ⟨a, rfl, k0, k1⟩ := hR i hlt
      have htk := take_next hlt
      generalize L[i] = x at k0 k1 htk
      have hw3 : IntKind.i64.wrap ((i : Int) + 1) = (i : Int) + 1 := by rw [IntKind.wrap_i64]; omega
      have hA : Below wr.heap.size wr (wr.alloc (.cells #[.int .u64 x.key, .int .u64 x.val] 35)) := (Below.refl _ _).alloc (Nat.le_refl _) _
      obtain ⟨fn, tmps, assign, body, hy, hR⟩ := hY (L.take i) x _ (HJ.out _ wr (.cells #[.int .u64 x.key, .int .u64 x.val] 35) hJr) (by rw [List.length_take]; omega)
      have HO := Lib.hid (And.intro hO (And.intro hA htk))
      clear hO hA hJr hJ1 hrow htk
      gi_wp2
      refine hR.mono ?_
      rintro e W3 (⟨rfl, hJ3, hk3⟩ | ⟨rfl, hJx3⟩)
      · have HK := Lib.hid (And.intro hJ3 hk3)
        clear hJ3 hk3
        gi_wp2
        go_roundw
        case rel =>
          refine ⟨i + 1, by omega, rfl, by rw [HO.out.2.2]; exact HK.out.1, ((KeepC.below HO.out.2.1).trans HK.out.2).owns HO.out.1 fun k hk hx => ?_⟩
          have := hblk k hk
          have := hX k hx
          omega
        case measure => simp only [RowKit.intOf]; omega
      · have HK := Lib.hid hJx3
        clear hJx3
        gi_wp2
        refine bodyPost_ret (results_none rfl _ _ _) rfl ?_
        exact ⟨⟨_, rfl⟩, .inr ⟨_, by rw [← HO.out.2.2]; exact List.take_prefix _ _, HK.out⟩⟩
    · obtain rfl : i = L.length := by omega
      have hlt1 : ¬ (L.length : Int) < L.length := by omega
      rw [List.take_of_length_le (Nat.le_refl _)] at hJr
      have HD := Lib.hid hJr
      clear hJr hO hJ1 hrow
      gi_wp2
      refine bodyPost_end (results_none rfl _ _ _) rfl ?_
      exact ⟨⟨_, rfl⟩, .inl HD.out⟩
theorem all_stops (n Bn : Nat) (X : Nat → Prop) (S : Nat → Prop) (fb : Nat) (most : Int) (L : List Pr2) (w : World) (hn : 1 ≤ n) (hB : w.cell? ⟨Bn, 0, none⟩ = some (.pointer (some ⟨fb, 0, none⟩))) (hP : PF w S fb most L) (hX : ∀ k, X k → k < w.heap.size) :
    SeqStopsK Fence.wide n Tryd.prog 26 #[.pointer (some ⟨Bn, 0, none⟩)] (fun x : Pr2 => #[.int .u64 x.key, .int .u64 x.val]) (KeepC X) (fun ys => ys = L) (fun pre => pre <+: L) L.length w := fun l J Jx W hW hJ _ hY h0 =>
  all1_c n l Bn X S fb most L J Jx W hn hJ hY ((hW.cell (block_lt_of_cell hB)).trans hB) (hP.below hW) (fun k hk => Nat.lt_of_lt_of_le (hX k hk) hW.size) h0
theorem all_c (fb : Nat) (w : World) : Calls Tryd.prog 11 #[.pointer (some ⟨fb, 0, none⟩)] w fun e w' => e = .returned (.func (.func 26) #[] #[.pointer (some ⟨w.heap.size, 0, none⟩)]) ∧ w' = w.alloc (.cells #[.pointer (some ⟨fb, 0, none⟩)] 24) := by
  go_enter Tryd.func11, Tryd.ntmps11
  go_wp2_with fail
  go_ret
  exact ⟨rfl, rfl⟩
end Go.Proofs.YtfnnfgiflhpefaaDoor
