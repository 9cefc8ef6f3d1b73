/-
  The library's functions on the map of the open iterators: maps.Keys, slices.Sorted; Ids, by contract. (The layings printed by mklay24.py.)
-/
import Derived.Shelf.SlIterI.Nil
import Derived.Shelf.SortM.Plain
import Derived.Shelf.SortM.SortNone
import Derived.Shelf.AbstractIn
import Derived.Test.YtacdbgoffepaaaaDoorItP
namespace Go.Proofs.YtacdbgoffepaaaaDoor
open Go.RowKit Go.Maps Go.Sort Go.Shelf Go.Lib
attribute [local go_sem] Oper.semAt_some

def lay_keysA_ren : Go.Shelf.Ren := ⟨fun | 7 => 61 | 10 => 67 | n => n, fun | 23 => 104 | 26 => 3 | 3 => 39 | 28 => 110 | 0 => 0 | 27 => 109 | 33 => 92 | 4 => 4 | n => n, fun | n => n⟩
theorem lay_keysA : SlLaysZI.n7 Tryd.prog lay_keysA_ren := {
  mixed := by kernel_rfl
  f7 := ⟨Tryd.f61.name, by decide, Tryd.func61.trans (congrArg some (by kernel_rfl))⟩
  f10 := ⟨Tryd.f67.name, by decide, Tryd.func67.trans (congrArg some (by kernel_rfl))⟩
  t0 := Tryd.underlying0
  a0 := Tryd.isAgg0
  z0 := Tryd.sizeOf0
  v0 := Tryd.zeroValue0
  t4 := Tryd.underlying4
  a4 := Tryd.isAgg4
  z4 := Tryd.sizeOf4
  v4 := Tryd.zeroValue4
  t23 := Tryd.underlying104
  a23 := Tryd.isAgg104
  z23 := Tryd.sizeOf104
  v23 := Tryd.zeroValue104
  t26 := Tryd.underlying3
  a26 := Tryd.isAgg3
  z26 := Tryd.sizeOf3
  v26 := Tryd.zeroValue3
  t27 := Tryd.underlying109
  a27 := Tryd.isAgg109
  z27 := Tryd.sizeOf109
  v27 := Tryd.zeroValue109
  t28 := Tryd.underlying110
  a28 := Tryd.isAgg110
  z28 := Tryd.sizeOf110
  v28 := Tryd.zeroValue110
  t33 := Tryd.underlying92
  a33 := Tryd.isAgg92
  z33 := Tryd.sizeOf92
  v33 := Tryd.zeroValue92 }
def lay_sortedA_ren : Go.Shelf.Ren := ⟨fun | 6 => 60 | 8 => 65 | 9 => 66 | 11 => 68 | 13 => 70 | 12 => 69 | 23 => 80 | 24 => 81 | 14 => 71 | 15 => 72 | 16 => 73 | 17 => 74 | 18 => 75 | 19 => 76 | 20 => 77 | 21 => 78 | 22 => 79 | 25 => 82 | 26 => 83 | 27 => 84 | 28 => 85 | 29 => 86 | 30 => 87 | 31 => 88 | n => n, fun | 26 => 3 | 28 => 110 | 24 => 34 | 0 => 0 | 3 => 3 | 37 => 93 | 48 => 139 | 50 => 22 | 4 => 4 | 40 => 132 | 39 => 131 | 45 => 136 | 5 => 5 | 9 => 9 | 51 => 140 | 55 => 144 | 57 => 146 | 58 => 30 | 33 => 92 | n => n, fun | n => n⟩
theorem lay_sortedA : SlLaysZI.n6 Tryd.prog lay_sortedA_ren := {
  mixed := by kernel_rfl
  f6 := ⟨Tryd.f60.name, by decide, Tryd.func60.trans (congrArg some (by kernel_rfl))⟩
  f8 := ⟨Tryd.f65.name, by decide, Tryd.func65.trans (congrArg some (by kernel_rfl))⟩
  f11 := ⟨Tryd.f68.name, by decide, Tryd.func68.trans (congrArg some (by kernel_rfl))⟩
  t0 := Tryd.underlying0
  a0 := Tryd.isAgg0
  z0 := Tryd.sizeOf0
  v0 := Tryd.zeroValue0
  t24 := Tryd.underlying34
  a24 := Tryd.isAgg34
  z24 := Tryd.sizeOf34
  v24 := Tryd.zeroValue34
  t26 := Tryd.underlying3
  a26 := Tryd.isAgg3
  z26 := Tryd.sizeOf3
  v26 := Tryd.zeroValue3
  t28 := Tryd.underlying110
  a28 := Tryd.isAgg110
  z28 := Tryd.sizeOf110
  v28 := Tryd.zeroValue110
  i26 := by kernel_rfl }
def lay_sortA_ren : Go.Shelf.Ren := ⟨fun | 5 => 66 | 8 => 70 | 7 => 69 | 19 => 80 | 20 => 81 | 10 => 71 | 11 => 72 | 12 => 73 | 13 => 74 | 14 => 75 | 15 => 76 | 16 => 77 | 17 => 78 | 18 => 79 | 30 => 82 | 31 => 83 | 32 => 84 | 33 => 85 | 34 => 86 | 35 => 87 | 40 => 88 | n => n, fun | 23 => 34 | 25 => 3 | 3 => 3 | 32 => 93 | 22 => 34 | 0 => 0 | 44 => 139 | 46 => 22 | 4 => 4 | 36 => 132 | 35 => 131 | 41 => 136 | 5 => 5 | 9 => 9 | 53 => 140 | 57 => 144 | 63 => 146 | 64 => 30 | n => n, fun | n => n⟩
theorem lay_sortA : SlLaysM.n5 Tryd.prog lay_sortA_ren := {
  mixed := by kernel_rfl
  f5 := ⟨Tryd.f66.name, by decide, Tryd.func66.trans (congrArg some (by kernel_rfl))⟩
  f7 := ⟨Tryd.f69.name, by decide, Tryd.func69.trans (congrArg some (by kernel_rfl))⟩
  f8 := Tryd.func70.trans (congrArg some (by kernel_rfl))
  f10 := ⟨Tryd.f71.name, by decide, Tryd.func71.trans (congrArg some (by kernel_rfl))⟩
  f11 := ⟨Tryd.f72.name, by decide, Tryd.func72.trans (congrArg some (by kernel_rfl))⟩
  f12 := ⟨Tryd.f73.name, by decide, Tryd.func73.trans (congrArg some (by kernel_rfl))⟩
  f13 := ⟨Tryd.f74.name, by decide, Tryd.func74.trans (congrArg some (by kernel_rfl))⟩
  f14 := ⟨Tryd.f75.name, by decide, Tryd.func75.trans (congrArg some (by kernel_rfl))⟩
  f15 := ⟨Tryd.f76.name, by decide, Tryd.func76.trans (congrArg some (by kernel_rfl))⟩
  f16 := ⟨Tryd.f77.name, by decide, Tryd.func77.trans (congrArg some (by kernel_rfl))⟩
  f17 := ⟨Tryd.f78.name, by decide, Tryd.func78.trans (congrArg some (by kernel_rfl))⟩
  f18 := ⟨Tryd.f79.name, by decide, Tryd.func79.trans (congrArg some (by kernel_rfl))⟩
  f19 := Tryd.func80.trans (congrArg some (by kernel_rfl))
  f20 := Tryd.func81.trans (congrArg some (by kernel_rfl))
  f30 := ⟨Tryd.f82.name, by decide, Tryd.func82.trans (congrArg some (by kernel_rfl))⟩
  f31 := Tryd.func83.trans (congrArg some (by kernel_rfl))
  f32 := Tryd.func84.trans (congrArg some (by kernel_rfl))
  f33 := ⟨Tryd.f85.name, by decide, Tryd.func85.trans (congrArg some (by kernel_rfl))⟩
  f34 := ⟨Tryd.f86.name, by decide, Tryd.func86.trans (congrArg some (by kernel_rfl))⟩
  f35 := ⟨Tryd.f87.name, by decide, Tryd.func87.trans (congrArg some (by kernel_rfl))⟩
  f40 := ⟨Tryd.f88.name, by decide, Tryd.func88.trans (congrArg some (by kernel_rfl))⟩
  t0 := Tryd.underlying0
  a0 := Tryd.isAgg0
  z0 := Tryd.sizeOf0
  v0 := Tryd.zeroValue0
  t3 := Tryd.underlying3
  a3 := Tryd.isAgg3
  z3 := Tryd.sizeOf3
  v3 := Tryd.zeroValue3
  t4 := Tryd.underlying4
  a4 := Tryd.isAgg4
  z4 := Tryd.sizeOf4
  v4 := Tryd.zeroValue4
  t5 := Tryd.underlying5
  a5 := Tryd.isAgg5
  z5 := Tryd.sizeOf5
  v5 := Tryd.zeroValue5
  t9 := Tryd.underlying9
  a9 := Tryd.isAgg9
  z9 := Tryd.sizeOf9
  v9 := Tryd.zeroValue9
  t22 := Tryd.underlying34
  a22 := Tryd.isAgg34
  z22 := Tryd.sizeOf34
  v22 := Tryd.zeroValue34
  t23 := Tryd.underlying34
  a23 := Tryd.isAgg34
  z23 := Tryd.sizeOf34
  v23 := Tryd.zeroValue34
  t25 := Tryd.underlying3
  a25 := Tryd.isAgg3
  z25 := Tryd.sizeOf3
  v25 := Tryd.zeroValue3
  t32 := Tryd.underlying93
  a32 := Tryd.isAgg93
  z32 := Tryd.sizeOf93
  v32 := Tryd.zeroValue93
  t35 := Tryd.underlying131
  a35 := Tryd.isAgg131
  z35 := Tryd.sizeOf131
  v35 := Tryd.zeroValue131
  t36 := Tryd.underlying132
  a36 := Tryd.isAgg132
  z36 := Tryd.sizeOf132
  v36 := Tryd.zeroValue132
  t41 := Tryd.underlying136
  a41 := Tryd.isAgg136
  z41 := Tryd.sizeOf136
  v41 := Tryd.zeroValue136
  t44 := Tryd.underlying139
  a44 := Tryd.isAgg139
  z44 := Tryd.sizeOf139
  v44 := Tryd.zeroValue139
  t46 := Tryd.underlying22
  a46 := Tryd.isAgg22
  z46 := Tryd.sizeOf22
  v46 := Tryd.zeroValue22
  t53 := Tryd.underlying140
  a53 := Tryd.isAgg140
  z53 := Tryd.sizeOf140
  v53 := Tryd.zeroValue140
  t57 := Tryd.underlying144
  a57 := Tryd.isAgg144
  z57 := Tryd.sizeOf144
  v57 := Tryd.zeroValue144
  t63 := Tryd.underlying146
  a63 := Tryd.isAgg146
  z63 := Tryd.sizeOf146
  v63 := Tryd.zeroValue146
  t64 := Tryd.underlying30
  a64 := Tryd.isAgg30
  z64 := Tryd.sizeOf30
  v64 := Tryd.zeroValue30 }

theorem sorts24 (m : Nat) : AnyZI.SortsIn Tryd.prog lay_sortedA_ren Fence.wide m :=
  ⟨fun blk off cap ss W hH hblk hsz => callsIn_wide.2 (AnyM.slices_Sort_int lay_sortA blk off cap ss W hH hblk hsz),
   fun p cap W => callsIn_wide.2 (AnyM.slices_Sort_int_none lay_sortA p cap W)⟩
set_option maxHeartbeats 1000000 in
theorem ids_raw (tb b nn : Nat) (cs : Array Value) (D0 : DataW Nat) (R : Value → Option (DataW Nat × List MemPlace)) (w : World) (hB : Blk w tb 106 cs) (hc2 : cs[2]? = some (.map (some b))) (hown : w.ownsMap Tryd.prog 3 R b nn D0) (hmax : Maps.size D0 ≤ maxLen) (hbytes : Maps.size D0 * 8 ≤ 140737488355328) :
    Calls Tryd.prog 51 #[.pointer (some ⟨tb, 0, none⟩)] w fun e w' => ∃ (v : Value) (ss : List Int), e = .returned v ∧ ss.Perm (intKeys D0) ∧
      w'.ownsRow w.heap.size 3 1 v ss.length ((ss.mergeSort (fun x y => decide (x ≤ y))).map encZ) ∧ Below w.heap.size w w' := by
  refine (callsIn_wide (n := 6)).1 ?_
  have hbl := hown.lt
  have c2 : w.cell? ⟨tb, 2, none⟩ = some (.map (some b)) := (hB.cell 2).trans hc2
  have hseq : SeqGives Fence.wide 2 Tryd.prog 67 #[.pointer (some ⟨w.heap.size, 0, none⟩)] encZ (fun ss => ss.Perm (intKeys D0)) (Maps.size D0) (w.alloc (.cells #[.map (some b)] 104)) :=
    AnyZI.keys_gives (ρ := lay_keysA_ren) { lay_keysA with } Fence.wide _ trivial rfl (by omega) w.heap.size b nn D0 _ (by simp) (by simp) (by
      obtain ⟨es, clock, hb, Ft, hs, hD⟩ := hown
      exact ⟨es, clock, (Below.heap_alloc _ _ b hbl).trans hb, Ft, hs, hD⟩)
  have cK : ∀ mb W, CallsIn Fence.wide 5 Tryd.prog 61 #[.map mb] W fun e w' => e = .returned (.func (.func 67) #[] #[.pointer (some ⟨W.heap.size, 0, none⟩)]) ∧ w' = W.alloc (.cells #[.map mb] 104) := fun mb W => AnyZI.keys_in lay_keysA Fence.wide 5 trivial rfl mb W
  have cS := AnyZI.sorted_in lay_sortedA Fence.wide 5 trivial trivial trivial trivial rfl (by omega) (sorts24 _) (enters_of Tryd.func66 (by kernel_rfl) rfl) 67 #[.pointer (some ⟨w.heap.size, 0, none⟩)] trivial (enters_of Tryd.func67 (by kernel_rfl) rfl) _ _ hmax hbytes _ hseq
  change CallsIn _ _ Tryd.prog 60 _ _ _ at cS
  have hfK : Fence.wide.fn 61 := trivial
  have hfS : Fence.wide.fn 60 := trivial
  refine callsIn_of_wp Tryd.func51 rfl trivial ?_ rfl
  simp only [Tryd.ntmps51, List.size_toArray, List.length_cons, List.length_nil, Nat.reduceAdd, Nat.reduceSub, Array.replicate_succ, Array.replicate_zero, List.push_toArray, List.append_toArray, List.nil_append, List.cons_append]
  gi_wp2_with (first
    | (gi_at_call 61; refine (cK _ _).mono ?_; rintro e w' ⟨rfl, rfl⟩)
    | (gi_at_call 60; refine cS.mono ?_; rintro e w' ⟨v, ss, rfl, hS, hrow, hnil, hb⟩))
  go_ret
  exact ⟨v, ss, rfl, hS, ownsRow_base_a hrow (by simp), ((Below.refl _ w).alloc (Nat.le_refl _) _).trans (hb.mono (by simp))⟩
theorem sorted_ids {E : List Cu} (hs : E.Pairwise fun a b => a.id < b.id ∧ a.b ≠ b.b) {ss : List Int} (hp : ss.Perm (E.map Cu.id)) : ss.mergeSort (fun x y => decide (x ≤ y)) = E.map Cu.id := by
  have h1 : (ss.mergeSort (fun x y => decide (x ≤ y))).Perm (E.map Cu.id) := (List.mergeSort_perm ss _).trans hp
  have h2 : (ss.mergeSort (fun x y => decide (x ≤ y))).Pairwise fun x y => decide (x ≤ y) = true :=
    List.pairwise_mergeSort (fun a b c h1 h2 => by simp at h1 h2 ⊢; omega) (fun a b => by simp; omega) ss
  have h3 : (E.map Cu.id).Pairwise fun x y => decide (x ≤ y) = true := by
    rw [List.pairwise_map]
    exact hs.imp fun h => by have := h.1; simp; omega
  refine h1.eq_of_pairwise (fun a b _ _ h k => ?_) h2 h3
  simp at h k
  omega
theorem ids_c {B : Nat} {w : World} {tb mb : Nat} {most given : Int} {E : List Cu} {m : Nat} (H : PI B w tb mb most given E m) : Calls Tryd.prog 51 #[.pointer (some ⟨tb, 0, none⟩)] w fun e w' => ∃ v, e = .returned v ∧
      w'.ownsRow w.heap.size 3 1 v E.length (E.map fun e => .int .i64 e.id) ∧ Below w.heap.size w w' := by
  obtain ⟨D, h1, h2⟩ := H.map
  have hsz : Maps.size D ≤ 100 := Nat.le_trans h1.size_le H.gv.2.2
  refine (ids_raw tb mb m _ D curElem w H.blk rfl h1 (Nat.le_trans hsz (by decide)) (by omega)).mono ?_
  rintro e w' ⟨v, ss, rfl, hp, hr, hb⟩
  have hp2 := hp.trans h2.keys
  rw [sorted_ids H.sort hp2, List.map_map] at hr
  have hl : ss.length = E.length := by rw [hp2.length_eq, List.length_map]
  rw [hl] at hr
  exact ⟨v, rfl, hr, hb⟩
end Go.Proofs.YtacdbgoffepaaaaDoor
