/-
  The document's iterators (amblerref24) by contract: Close. (Printed by mkitc.py.)
-/
import Derived.Test.YtacdbgoffepaaaaDoorItD
namespace Go.Proofs.YtacdbgoffepaaaaDoor
open Go.RowKit Go.Lib

section
variable {B : Nat} {w w' : World} {rb : Nat} {most given : Int} {E : List Cu}
theorem closer_no (H : RI B w rb most given E) {id : Int} (hn : ∀ e ∈ E, e.id ≠ id) : Calls Tryd.prog 45 #[.pointer (some ⟨rb, 0, none⟩), .int .i64 id] w fun x w' => x = .returned (.int .i64 6) ∧ Below w.heap.size w w' := by
  have HA := Lib.hid (atr_no H hn)
  clear H hn
  go_enter Tryd.func45, Tryd.ntmps45
  go_wp2_with (go_at_call 47; refine HA.out.mono ?_; rintro e w1 ⟨rfl, hb⟩)
  go_ret
  exact ⟨rfl, hb⟩
/-- What stays of the first i. -/
def stay (id : Int) (E : List Cu) (i : Nat) : List Cu := (E.take i).filter fun x => decide (x.id ≠ id)
theorem stay_no (id : Int) (E : List Cu) (i : Nat) (h : i < E.length) (he : E[i].id = id) : stay id E (i + 1) = stay id E i := by
  unfold stay
  rw [List.take_add_one, List.getElem?_eq_getElem h, List.filter_append]
  simp [he]
theorem stay_yes (id : Int) (E : List Cu) (i : Nat) (h : i < E.length) (he : E[i].id ≠ id) : stay id E (i + 1) = stay id E i ++ [E[i]] := by
  unfold stay
  rw [List.take_add_one, List.getElem?_eq_getElem h, List.filter_append]
  simp [he]
theorem stay_len (id : Int) (E : List Cu) (i : Nat) : (stay id E i).length ≤ i := by
  unfold stay
  exact Nat.le_trans (List.length_filter_le _ _) (by simp; omega)
theorem app_int' {w : World} (base : Nat) (ty : TypeId) (v : Value) (n : Nat) (xs : List Value) (x : Int) (u : Value) (hown : w.ownsRow base 3 1 v n xs) (hu : ArgAt w 1 u 1 [.int .i64 x]) (hn : n ≤ 2000) (hbase : base ≤ w.heap.size) :
    ∃ v' w', (Builtin.append_ #[34, 34] ty #[v, u]).run Tryd.prog w = .ok v' w' ∧ w'.ownsRow base 3 1 v' (n + 1) (xs ++ [.int .i64 x]) ∧ w.grownBy w' v.ownBlock ∧ (v'.ownBlock = v.ownBlock ∨ v'.ownBlock = some w.heap.size) :=
  app_int base ty v n xs hown u 1 _ hu (fun u hu => by rw [List.mem_singleton.1 hu]; rfl) (by omega) hbase
theorem app_ptr' {w : World} (base : Nat) (ty : TypeId) (v : Value) (n : Nat) (xs : List Value) (b : Nat) (u : Value) (hown : w.ownsRow base 62 1 v n xs) (hu : ArgAt w 1 u 1 [.pointer (some ⟨b, 0, none⟩)]) (hn : n ≤ 2000) (hbase : base ≤ w.heap.size) :
    ∃ v' w', (Builtin.append_ #[75, 75] ty #[v, u]).run Tryd.prog w = .ok v' w' ∧ w'.ownsRow base 62 1 v' (n + 1) (xs ++ [.pointer (some ⟨b, 0, none⟩)]) ∧ w.grownBy w' v.ownBlock ∧ (v'.ownBlock = v.ownBlock ∨ v'.ownBlock = some w.heap.size) :=
  app_ptr base ty v n xs hown u 1 _ hu (fun u hu => by rw [List.mem_singleton.1 hu]; rfl) (by omega) hbase
/-- What the quiet operations of Close's region hand back. -/
def sqClose (rb n c2 i : Nat) (v7 v8 : Value) (x : Int) (a2 : Addr) (b : Nat) (j : Nat) : Value :=
  ([v7, .int .i64 x, undef, undef, v8, .pointer (some ⟨rb, 0, none⟩), .pointer (some ⟨rb, 0, none⟩), .pointer (some ⟨rb, 3, none⟩), .slice (some a2) n c2, .int .i64 i, .pointer (some (a2.add i)), .pointer (some ⟨b, 0, none⟩)] : List Value).getD j undef
set_option maxHeartbeats 4000000 in
set_option maxRecDepth 100000 in
theorem closer_yes (H : RI B w rb most given E) (hd : E.Pairwise fun a b => a.id ≠ b.id) {e : Cu} (he : e ∈ E) : Calls Tryd.prog 45 #[.pointer (some ⟨rb, 0, none⟩), .int .i64 e.id] w fun x w' => x = .returned (.int .i64 0) ∧ RI B w' rb most given (E.filter fun x => decide (x.id ≠ e.id)) ∧ ChK kindR B w w' := by
  have HA := Lib.hid (atr_yes H hd he)
  obtain ⟨p, c, p2, c2, h1, h2, h3, hR, hQ⟩ := H.cells
  have hsm := H.small
  have mixed : Tryd.prog.follows .mixedOrders = true := by kernel_rfl
  have HX := Lib.hid (And.intro H (And.intro h1 (And.intro h2 (And.intro h3 (And.intro hR hQ)))))
  clear H hd he h1 h2 h3 hR hQ
  generalize e.id = id at *
  go_enter Tryd.func45, Tryd.ntmps45
  go_wp2_with (first
    | (go_at_call 47; refine HA.out.mono ?_; rintro x1 w1 ⟨rfl, hb⟩; have hA0 : Below w1.heap.size w1 ((w1.alloc (.cells #[] 3)).alloc (.cells #[] 62)) := ((Below.refl _ _).alloc (Nat.le_refl _) _).alloc (by simp) _; have q2 := ((HX.out.2.1.below hb).below hA0).cell 2))
  clear q2
  have hr7 : ((w1.alloc (.cells #[] 3)).alloc (.cells #[] 62)).ownsRow w1.heap.size 3 1 (.slice (some ⟨w1.heap.size, 0, none⟩) 0 0) 0 [] := owns_old ((Below.refl _ _).alloc (Nat.le_refl _) _) (row_nil w1 _ 1)
  have hr8 : ((w1.alloc (.cells #[] 3)).alloc (.cells #[] 62)).ownsRow w1.heap.size 62 1 (.slice (some ⟨w1.heap.size + 1, 0, none⟩) 0 0) 0 [] := by
    have := row_nil (w1.alloc (.cells #[] 3)) 62 1
    rw [show (w1.alloc (.cells #[] 3)).heap.size = w1.heap.size + 1 from Array.size_push _] at this
    exact owns_base this (by omega)
  have HB0 := Lib.hid (And.intro hA0 (And.intro hr7 hr8))
  have HB := Lib.hid hb
  clear hA0 hb hr7 hr8
  go_loopw [7, 8, 27] (fun s7 s8 s27 wr => ∃ (i g7 c7 g8 c8 : Nat), i ≤ E.length ∧ s27 = .int .i64 i ∧ s7 = .slice (some ⟨g7, 0, none⟩) (stay id E i).length c7 ∧ s8 = .slice (some ⟨g8, 0, none⟩) (stay id E i).length c8 ∧
    wr.ownsRow w1.heap.size 3 1 (.slice (some ⟨g7, 0, none⟩) (stay id E i).length c7) (stay id E i).length (ids (stay id E i)) ∧ wr.ownsRow w1.heap.size 62 1 (.slice (some ⟨g8, 0, none⟩) (stay id E i).length c8) (stay id E i).length (ptrs (stay id E i)) ∧ Below w1.heap.size w1 wr) (fun _ _ s27 _ => E.length - (RowKit.intOf s27).toNat)
  case atStart => exact ⟨0, w1.heap.size, 0, w1.heap.size + 1, 0, Nat.zero_le _, rfl, rfl, rfl, HB0.out.2.1, HB0.out.2.2, HB0.out.1⟩
  case round =>
    obtain ⟨i, g7, c7, g8, c8, hi, rfl, rfl, rfl, o7, o8, hbr⟩ := hrel
    have hw3 : IntKind.i64.wrap ((i : Int) + 1) = (i : Int) + 1 := by rw [IntKind.wrap_i64]; omega
    have hk := stay_len id E i
    by_cases hlt : i < E.length
    · have hlt1 : (i : Int) < E.length := by omega
      obtain ⟨a, rfl, k0⟩ := HX.out.2.2.2.2.1 i hlt
      obtain ⟨a2, rfl, j0⟩ := HX.out.2.2.2.2.2 i hlt
      have HJ := Lib.hid (show (a2.add i).block < w1.heap.size from Nat.lt_of_lt_of_le (block_lt_of_cell j0) HB.out.size)
      have HX3 := Lib.hid (show rb < w1.heap.size from Nat.lt_of_lt_of_le HX.out.2.1.lt HB.out.size)
      have hbw := HB.out.trans (hbr.mono HB.out.size)
      have k0 := (hbw.cell (block_lt_of_cell k0)).trans k0
      have j0 := (hbw.cell (block_lt_of_cell j0)).trans j0
      have hs1 := stay_no id E i hlt
      have hs2 := stay_yes id E i hlt
      generalize E[i] = f at k0 j0 hs1 hs2
      by_cases hid : f.id = id
      · have hs := hs1 hid
        have HS := Lib.hid (And.intro o7 (And.intro o8 (And.intro hbr hs)))
        clear o7 o8 hbr hs hs1 hs2 j0 hbw
        rw [hid] at k0
        go_wp2_with fail
        go_roundw
        case rel =>
          obtain ⟨o7, o8, hbr, hs⟩ := HS.out
          exact ⟨i + 1, g7, c7, g8, c8, by omega, rfl, by rw [hs], by rw [hs], by rw [hs]; exact o7, by rw [hs]; exact o8, hbr⟩
        case measure => simp only [RowKit.intOf]; omega
      · have hne : (f.id == id) = false := by simpa using hid
        have hs := hs2 hid
        generalize stay id E i = F at *
        have q3 := ((HX.out.2.1.below hbw)).cell 3
        have hB1 : w1.heap.size ≤ wr.heap.size := hbr.size
        have HS := Lib.hid (And.intro hbr (And.intro hs hbw))
        clear hbr hs hs1 hs2 hbw
        go_upto_region 9 with fail
        refine region_inv (l := _) 14 (CI w1.heap.size wr _ (sqClose rb E.length c2 i (.slice (some ⟨g7, 0, none⟩) F.length c7) (.slice (some ⟨g8, 0, none⟩) F.length c8) f.id a2 f.b) 3 62 (.slice (some ⟨g7, 0, none⟩) F.length c7) (.slice (some ⟨g8, 0, none⟩) F.length c8) F.length (ids F) (ptrs F) (.int .i64 f.id) (.pointer (some ⟨f.b, 0, none⟩))) mixed (by decide) (by kernel_rfl) (by kernel_rfl) (by kernel_rfl) (by kernel_rfl) (CI.start ((Below.refl _ _).drew) (owns_old (below_drew _) o7) (owns_old (below_drew _) o8) _) ?_ ?_
        · intro listed a W io hi hsz HI hr
          have hsz' : listed.size = 16 := hsz
          have hi0 : (0 : Int) ≤ (i : Int) := by omega
          have e0 : a.tmps[0]?.getD undef = .pointer (some ⟨rb, 0, none⟩) := raw (HI.c.keep 0 (.inl (by decide)))
          have e7 : a.tmps[7]?.getD undef = .slice (some ⟨g7, 0, none⟩) F.length c7 := raw (HI.c.keep 7 (.inl (by decide)))
          have e8 : a.tmps[8]?.getD undef = .slice (some ⟨g8, 0, none⟩) F.length c8 := raw (HI.c.keep 8 (.inl (by decide)))
          have e9 : a.tmps[9]?.getD undef = .int .i64 i := raw (HI.c.keep 9 (.inl (by decide)))
          have e10 : a.tmps[10]?.getD undef = .int .i64 f.id := raw (HI.c.keep 10 (.inl (by decide)))
          have c3 : W.cell? ⟨rb, 3, none⟩ = some (.slice (some a2) E.length c2) := (HI.c.bel.cell (Nat.lt_of_lt_of_le HX3.out (Nat.le_refl _))).trans q3
          have cj : W.cell? (a2.add i) = some (.pointer (some ⟨f.b, 0, none⟩)) := (HI.c.bel.cell HJ.out).trans j0
          match io, hi with
          | 0, hi =>
            refine HI.quiet hi (by decide) (show 49 ≤ 58 by decide) rfl rfl (fun K h => ?_)
            simp [go_sem, e7]
            exact h
          | 1, hi =>
            refine HI.quiet hi (by decide) (show 49 ≤ 58 by decide) rfl rfl (fun K h => ?_)
            simp [go_sem, e10]
            exact h
          | 2, hi =>
            have d1 : a.tmps[36]?.getD undef = .int .i64 f.id := raw (HI.c.qs 1 (by decide) (by decide) (dep hr 1 (by kernel_rfl)))
            refine HI.build hB1 (show 49 ≤ 58 by decide) rfl rfl (fun K h => ?_)
            simp [go_sem, d1]
            exact h
          | 3, hi =>
            have hun := getD_both (mem_ready.1 hr).1
            refine HI.app hB1 (show 49 ≤ 58 by decide) (by decide) (by omega) (dep hr 0 (by kernel_rfl)) (dep hr 2 (by kernel_rfl)) hun rfl rfl rfl _ _ rfl rfl (fun u hv hu => app_int' _ _ _ _ _ _ u hv hu (by omega) (by have := HI.c.bel.size; omega))
          | 4, hi =>
            refine HI.quiet hi (by decide) (show 49 ≤ 58 by decide) rfl rfl (fun K h => ?_)
            simp [go_sem, e8]
            exact h
          | 5, hi =>
            refine HI.quiet hi (by decide) (show 49 ≤ 58 by decide) rfl rfl (fun K h => ?_)
            simp [go_sem, e0]
            exact h
          | 6, hi =>
            have d5 : a.tmps[40]?.getD undef = .pointer (some ⟨rb, 0, none⟩) := raw (HI.c.qs 5 (by decide) (by decide) (dep hr 5 (by kernel_rfl)))
            refine HI.quiet hi (by decide) (show 49 ≤ 58 by decide) rfl rfl (fun K h => ?_)
            simp [go_sem, d5]
            exact h
          | 7, hi =>
            have d6 : a.tmps[41]?.getD undef = .pointer (some ⟨rb, 0, none⟩) := raw (HI.c.qs 6 (by decide) (by decide) (dep hr 6 (by kernel_rfl)))
            refine HI.quiet hi (by decide) (show 49 ≤ 58 by decide) rfl rfl (fun K h => ?_)
            simp [go_sem, d6]
            exact h
          | 8, hi =>
            have d7 : a.tmps[42]?.getD undef = .pointer (some ⟨rb, 3, none⟩) := raw (HI.c.qs 7 (by decide) (by decide) (dep hr 7 (by kernel_rfl)))
            refine HI.quiet hi (by decide) (show 49 ≤ 58 by decide) rfl rfl (fun K h => ?_)
            simp [go_sem, d7, c3]
            exact h
          | 9, hi =>
            refine HI.quiet hi (by decide) (show 49 ≤ 58 by decide) rfl rfl (fun K h => ?_)
            simp [go_sem, e9]
            exact h
          | 10, hi =>
            have d8 : a.tmps[43]?.getD undef = .slice (some a2) E.length c2 := raw (HI.c.qs 8 (by decide) (by decide) (dep hr 8 (by kernel_rfl)))
            have d9 : a.tmps[44]?.getD undef = .int .i64 i := raw (HI.c.qs 9 (by decide) (by decide) (dep hr 9 (by kernel_rfl)))
            refine HI.quiet hi (by decide) (show 49 ≤ 58 by decide) rfl rfl (fun K h => ?_)
            simp [go_sem, d8, d9, hlt1, hi0]
            exact h
          | 11, hi =>
            have d10 : a.tmps[45]?.getD undef = .pointer (some (a2.add i)) := raw (HI.c.qs 10 (by decide) (by decide) (dep hr 10 (by kernel_rfl)))
            refine HI.quiet hi (by decide) (show 49 ≤ 58 by decide) rfl rfl (fun K h => ?_)
            simp [go_sem, d10, cj]
            exact h
          | 12, hi =>
            have d11 : a.tmps[46]?.getD undef = .pointer (some ⟨f.b, 0, none⟩) := raw (HI.c.qs 11 (by decide) (by decide) (dep hr 11 (by kernel_rfl)))
            refine HI.build2 hB1 (show 49 ≤ 58 by decide) rfl rfl (fun K h => ?_)
            simp [go_sem, d11]
            exact h
          | 13, hi =>
            have hun := getD_both (mem_ready.1 hr).1
            refine HI.app2 hB1 (show 49 ≤ 58 by decide) (by decide) (by omega) (dep hr 4 (by kernel_rfl)) (dep hr 12 (by kernel_rfl)) hun rfl rfl rfl _ _ rfl rfl (fun u hv hu => app_ptr' _ _ _ _ _ _ u hv hu (by omega) (by have := HI.c.bel.size; omega))
          | kk + 14, hi => exact absurd hi (by omega)
        · intro listed a9 W hall hsz HI
          have o38 := HI.h.r2 (hall 3 (by decide))
          have o48 := HI.h2.r2 (hall 13 (by decide))
          have h62 : a9.tmps.size = 58 := HI.c.size
          have hdf : a9.defers = [] := HI.c.defers
          have bW := HI.c.bel
          have t0 : a9.tmps.getD 0 undef = .pointer (some ⟨rb, 0, none⟩) := HI.c.keep 0 (.inl (by decide))
          have t1 : a9.tmps.getD 1 undef = .int .i64 id := HI.c.keep 1 (.inl (by decide))
          have t2 : a9.tmps.getD 2 undef = undef := HI.c.keep 2 (.inl (by decide))
          have t3 : a9.tmps.getD 3 undef = undef := HI.c.keep 3 (.inl (by decide))
          have t4 : a9.tmps.getD 4 undef = .int .i64 0 := HI.c.keep 4 (.inl (by decide))
          have t5 : a9.tmps.getD 5 undef = .pointer (some ⟨e.b, 0, none⟩) := HI.c.keep 5 (.inl (by decide))
          have t6 : a9.tmps.getD 6 undef = .int .i64 0 := HI.c.keep 6 (.inl (by decide))
          have t11 : a9.tmps.getD 11 undef = .tuple #[.pointer (some ⟨e.b, 0, none⟩), .int .i64 0] := HI.c.keep 11 (.inl (by decide))
          have t12 : a9.tmps.getD 12 undef = .pointer (some ⟨rb, 0, none⟩) := HI.c.keep 12 (.inl (by decide))
          have t13 : a9.tmps.getD 13 undef = .int .i64 id := HI.c.keep 13 (.inl (by decide))
          have t14 : a9.tmps.getD 14 undef = .tuple #[.pointer (some ⟨e.b, 0, none⟩), .int .i64 0] := HI.c.keep 14 (.inl (by decide))
          have t15 : a9.tmps.getD 15 undef = .pointer (some ⟨e.b, 0, none⟩) := HI.c.keep 15 (.inl (by decide))
          have t16 : a9.tmps.getD 16 undef = .int .i64 0 := HI.c.keep 16 (.inl (by decide))
          have t17 : a9.tmps.getD 17 undef = .int .i64 0 := HI.c.keep 17 (.inl (by decide))
          have t18 : a9.tmps.getD 18 undef = .bool false := HI.c.keep 18 (.inl (by decide))
          have t19 : a9.tmps.getD 19 undef = undef := HI.c.keep 19 (.inl (by decide))
          have t20 : a9.tmps.getD 20 undef = .slice (some ⟨w1.heap.size, 0, none⟩) 0 0 := HI.c.keep 20 (.inl (by decide))
          have t21 : a9.tmps.getD 21 undef = .slice (some ⟨w1.heap.size + 1, 0, none⟩) 0 0 := HI.c.keep 21 (.inl (by decide))
          have t22 : a9.tmps.getD 22 undef = .pointer (some ⟨rb, 0, none⟩) := HI.c.keep 22 (.inl (by decide))
          have t23 : a9.tmps.getD 23 undef = .pointer (some ⟨rb, 0, none⟩) := HI.c.keep 23 (.inl (by decide))
          have t24 : a9.tmps.getD 24 undef = .pointer (some ⟨rb, 2, none⟩) := HI.c.keep 24 (.inl (by decide))
          have t25 : a9.tmps.getD 25 undef = .slice (some a) E.length c := HI.c.keep 25 (.inl (by decide))
          have t26 : a9.tmps.getD 26 undef = .int .i64 E.length := HI.c.keep 26 (.inl (by decide))
          have t27 : a9.tmps.getD 27 undef = .int .i64 i := HI.c.keep 27 (.inl (by decide))
          have t50 : a9.tmps.getD 50 undef = undef := HI.c.keep 50 (.inr (by decide))
          have t51 : a9.tmps.getD 51 undef = undef := HI.c.keep 51 (.inr (by decide))
          have t52 : a9.tmps.getD 52 undef = undef := HI.c.keep 52 (.inr (by decide))
          have t53 : a9.tmps.getD 53 undef = undef := HI.c.keep 53 (.inr (by decide))
          have t54 : a9.tmps.getD 54 undef = undef := HI.c.keep 54 (.inr (by decide))
          have t55 : a9.tmps.getD 55 undef = undef := HI.c.keep 55 (.inr (by decide))
          have t56 : a9.tmps.getD 56 undef = undef := HI.c.keep 56 (.inr (by decide))
          have t57 : a9.tmps.getD 57 undef = undef := HI.c.keep 57 (.inr (by decide))
          clear HI hall hsz
          obtain ⟨⟨ts⟩, df⟩ := a9
          have hz : ts.length = 58 := h62
          obtain rfl : df = [] := hdf
          clear h62
          obtain ⟨z0, ts0, rfl, hz0⟩ := cons_of hz
          clear hz
          obtain ⟨z1, ts1, rfl, hz1⟩ := cons_of hz0
          clear hz0
          obtain ⟨z2, ts2, rfl, hz2⟩ := cons_of hz1
          clear hz1
          obtain ⟨z3, ts3, rfl, hz3⟩ := cons_of hz2
          clear hz2
          obtain ⟨z4, ts4, rfl, hz4⟩ := cons_of hz3
          clear hz3
          obtain ⟨z5, ts5, rfl, hz5⟩ := cons_of hz4
          clear hz4
          obtain ⟨z6, ts6, rfl, hz6⟩ := cons_of hz5
          clear hz5
          obtain ⟨z7, ts7, rfl, hz7⟩ := cons_of hz6
          clear hz6
          obtain ⟨z8, ts8, rfl, hz8⟩ := cons_of hz7
          clear hz7
          obtain ⟨z9, ts9, rfl, hz9⟩ := cons_of hz8
          clear hz8
          obtain ⟨z10, ts10, rfl, hz10⟩ := cons_of hz9
          clear hz9
          obtain ⟨z11, ts11, rfl, hz11⟩ := cons_of hz10
          clear hz10
          obtain ⟨z12, ts12, rfl, hz12⟩ := cons_of hz11
          clear hz11
          obtain ⟨z13, ts13, rfl, hz13⟩ := cons_of hz12
          clear hz12
          obtain ⟨z14, ts14, rfl, hz14⟩ := cons_of hz13
          clear hz13
          obtain ⟨z15, ts15, rfl, hz15⟩ := cons_of hz14
          clear hz14
          obtain ⟨z16, ts16, rfl, hz16⟩ := cons_of hz15
          clear hz15
          obtain ⟨z17, ts17, rfl, hz17⟩ := cons_of hz16
          clear hz16
          obtain ⟨z18, ts18, rfl, hz18⟩ := cons_of hz17
          clear hz17
          obtain ⟨z19, ts19, rfl, hz19⟩ := cons_of hz18
          clear hz18
          obtain ⟨z20, ts20, rfl, hz20⟩ := cons_of hz19
          clear hz19
          obtain ⟨z21, ts21, rfl, hz21⟩ := cons_of hz20
          clear hz20
          obtain ⟨z22, ts22, rfl, hz22⟩ := cons_of hz21
          clear hz21
          obtain ⟨z23, ts23, rfl, hz23⟩ := cons_of hz22
          clear hz22
          obtain ⟨z24, ts24, rfl, hz24⟩ := cons_of hz23
          clear hz23
          obtain ⟨z25, ts25, rfl, hz25⟩ := cons_of hz24
          clear hz24
          obtain ⟨z26, ts26, rfl, hz26⟩ := cons_of hz25
          clear hz25
          obtain ⟨z27, ts27, rfl, hz27⟩ := cons_of hz26
          clear hz26
          obtain ⟨z28, ts28, rfl, hz28⟩ := cons_of hz27
          clear hz27
          obtain ⟨z29, ts29, rfl, hz29⟩ := cons_of hz28
          clear hz28
          obtain ⟨z30, ts30, rfl, hz30⟩ := cons_of hz29
          clear hz29
          obtain ⟨z31, ts31, rfl, hz31⟩ := cons_of hz30
          clear hz30
          obtain ⟨z32, ts32, rfl, hz32⟩ := cons_of hz31
          clear hz31
          obtain ⟨z33, ts33, rfl, hz33⟩ := cons_of hz32
          clear hz32
          obtain ⟨z34, ts34, rfl, hz34⟩ := cons_of hz33
          clear hz33
          obtain ⟨z35, ts35, rfl, hz35⟩ := cons_of hz34
          clear hz34
          obtain ⟨z36, ts36, rfl, hz36⟩ := cons_of hz35
          clear hz35
          obtain ⟨z37, ts37, rfl, hz37⟩ := cons_of hz36
          clear hz36
          obtain ⟨z38, ts38, rfl, hz38⟩ := cons_of hz37
          clear hz37
          obtain ⟨z39, ts39, rfl, hz39⟩ := cons_of hz38
          clear hz38
          obtain ⟨z40, ts40, rfl, hz40⟩ := cons_of hz39
          clear hz39
          obtain ⟨z41, ts41, rfl, hz41⟩ := cons_of hz40
          clear hz40
          obtain ⟨z42, ts42, rfl, hz42⟩ := cons_of hz41
          clear hz41
          obtain ⟨z43, ts43, rfl, hz43⟩ := cons_of hz42
          clear hz42
          obtain ⟨z44, ts44, rfl, hz44⟩ := cons_of hz43
          clear hz43
          obtain ⟨z45, ts45, rfl, hz45⟩ := cons_of hz44
          clear hz44
          obtain ⟨z46, ts46, rfl, hz46⟩ := cons_of hz45
          clear hz45
          obtain ⟨z47, ts47, rfl, hz47⟩ := cons_of hz46
          clear hz46
          obtain ⟨z48, ts48, rfl, hz48⟩ := cons_of hz47
          clear hz47
          obtain ⟨z49, ts49, rfl, hz49⟩ := cons_of hz48
          clear hz48
          obtain ⟨z50, ts50, rfl, hz50⟩ := cons_of hz49
          clear hz49
          obtain ⟨z51, ts51, rfl, hz51⟩ := cons_of hz50
          clear hz50
          obtain ⟨z52, ts52, rfl, hz52⟩ := cons_of hz51
          clear hz51
          obtain ⟨z53, ts53, rfl, hz53⟩ := cons_of hz52
          clear hz52
          obtain ⟨z54, ts54, rfl, hz54⟩ := cons_of hz53
          clear hz53
          obtain ⟨z55, ts55, rfl, hz55⟩ := cons_of hz54
          clear hz54
          obtain ⟨z56, ts56, rfl, hz56⟩ := cons_of hz55
          clear hz55
          obtain ⟨z57, ts57, rfl, hz57⟩ := cons_of hz56
          clear hz56
          obtain rfl := List.length_eq_zero_iff.1 hz57
          clear hz57
          obtain rfl : z0 = .pointer (some ⟨rb, 0, none⟩) := t0
          obtain rfl : z1 = .int .i64 id := t1
          obtain rfl : z2 = undef := t2
          obtain rfl : z3 = undef := t3
          obtain rfl : z4 = .int .i64 0 := t4
          obtain rfl : z5 = .pointer (some ⟨e.b, 0, none⟩) := t5
          obtain rfl : z6 = .int .i64 0 := t6
          obtain rfl : z11 = .tuple #[.pointer (some ⟨e.b, 0, none⟩), .int .i64 0] := t11
          obtain rfl : z12 = .pointer (some ⟨rb, 0, none⟩) := t12
          obtain rfl : z13 = .int .i64 id := t13
          obtain rfl : z14 = .tuple #[.pointer (some ⟨e.b, 0, none⟩), .int .i64 0] := t14
          obtain rfl : z15 = .pointer (some ⟨e.b, 0, none⟩) := t15
          obtain rfl : z16 = .int .i64 0 := t16
          obtain rfl : z17 = .int .i64 0 := t17
          obtain rfl : z18 = .bool false := t18
          obtain rfl : z19 = undef := t19
          obtain rfl : z20 = .slice (some ⟨w1.heap.size, 0, none⟩) 0 0 := t20
          obtain rfl : z21 = .slice (some ⟨w1.heap.size + 1, 0, none⟩) 0 0 := t21
          obtain rfl : z22 = .pointer (some ⟨rb, 0, none⟩) := t22
          obtain rfl : z23 = .pointer (some ⟨rb, 0, none⟩) := t23
          obtain rfl : z24 = .pointer (some ⟨rb, 2, none⟩) := t24
          obtain rfl : z25 = .slice (some a) E.length c := t25
          obtain rfl : z26 = .int .i64 E.length := t26
          obtain rfl : z27 = .int .i64 i := t27
          obtain rfl : z50 = undef := t50
          obtain rfl : z51 = undef := t51
          obtain rfl : z52 = undef := t52
          obtain rfl : z53 = undef := t53
          obtain rfl : z54 = undef := t54
          obtain rfl : z55 = undef := t55
          obtain rfl : z56 = undef := t56
          obtain rfl : z57 = undef := t57
          have o38' : W.ownsRow w1.heap.size 3 1 z38 (F.length + 1) (ids F ++ [.int .i64 f.id]) := o38
          have o48' : W.ownsRow w1.heap.size 62 1 z48 (F.length + 1) (ptrs F ++ [.pointer (some ⟨f.b, 0, none⟩)]) := o48
          clear o38 o48
          rcases row_or o38' with ⟨_, hz⟩ | ⟨g38, c38, rfl, _⟩
          · omega
          rcases row_or o48' with ⟨_, hz⟩ | ⟨g48, c48, rfl, _⟩
          · omega
          have HY := Lib.hid (And.intro o38' (And.intro o48' bW))
          clear o38' o48' bW o7 o8
          simp only [List.drop_succ_cons, List.drop_zero]
          go_wp2_with fail
          go_roundw
          case rel =>
            obtain ⟨o38, o48, bW⟩ := HY.out
            obtain ⟨hbr, hs, _⟩ := HS.out
            have e1 : (stay id E (i + 1)).length = F.length + 1 := by rw [hs]; simp
            have e2 : ids (stay id E (i + 1)) = ids F ++ [.int .i64 f.id] := by rw [hs]; simp [ids]
            have e3 : ptrs (stay id E (i + 1)) = ptrs F ++ [.pointer (some ⟨f.b, 0, none⟩)] := by rw [hs]; simp [ptrs]
            refine ⟨i + 1, g38, c38, g48, c48, by omega, rfl, by rw [e1], by rw [e1], by rw [e1, e2]; exact o38, by rw [e1, e3]; exact o48, hbr.trans bW⟩
          case measure => simp only [RowKit.intOf]; omega
    · obtain rfl : i = E.length := by omega
      have hlt1 : ¬ (E.length : Int) < E.length := by omega
      have HS := Lib.hid (And.intro o7 (And.intro o8 hbr))
      have q2 := ((HX.out.2.1.below HB.out).below hbr).cell 2
      have q3 := ((HX.out.2.1.below HB.out).below hbr).cell 3
      have f2 := ((HX.out.2.1.below HB.out).below hbr).free 2
      have f3 := ((HX.out.2.1.below HB.out).below hbr).free 3
      clear o7 o8 hbr
      go_wp2_with fail
      go_ret
      obtain ⟨o7, o8, hbr⟩ := HS.out
      have hb := HB.out
      obtain ⟨H, h1, _⟩ := HX.out
      have b0 := (h1.below hb).below hbr
      have hlo := H.lo.1
      have hrb := h1.lt
      have hs1 := hb.size
      have hB1 : B ≤ w1.heap.size := by omega
      have e9 : (E.filter fun x => !decide (x.id = id)) = stay id E E.length := by simp [stay]
      rw [e9]
      have hsub : (stay id E E.length).Sublist E := List.filter_sublist.trans (List.take_sublist _ _)
      have hu : But rb wr ((wr.setCell ⟨rb, 2, none⟩ (.slice (some ⟨g7, 0, none⟩) (stay id E E.length).length c7)).setCell ⟨rb, 3, none⟩ (.slice (some ⟨g8, 0, none⟩) (stay id E E.length).length c8)) := ((But.refl rb wr).set_ 2 _).set_ 3 _
      have k1 : ChK kindR B w w1 := ChK.of hb
      have k2 : ChK kindR B w1 wr := ChK.of hbr
      have k3 := ChK.but (K := kindR) hu hlo b0 rfl
      refine ⟨rfl, ⟨⟨_, _, (b0.set_ 2 _).set_ 3 _, owns_base (owns_but o7 hu b0 (by decide)) hB1, owns_base (owns_but o8 hu b0 (by decide)) hB1⟩, fun f hf => ?_, H.dis.sublist hsub, ⟨hlo, fun f hf => H.lo.2 f (hsub.subset hf)⟩, Nat.le_trans hsub.length_le H.small⟩, (k1.trans k2).trans k3⟩
      have hc := H.cur f (hsub.subset hf)
      have hne : f.b ≠ rb := fun x => by
        obtain ⟨s, HH, K, hB, _⟩ := hc
        have k1 : w.heap[f.b]? = some _ := hB
        have k2 : w.heap[rb]? = some _ := h1
        rw [x, k2] at k1
        cases k1
      exact ((hc.below hb).below hbr).but hu hne
end
end Go.Proofs.YtacdbgoffepaaaaDoor
