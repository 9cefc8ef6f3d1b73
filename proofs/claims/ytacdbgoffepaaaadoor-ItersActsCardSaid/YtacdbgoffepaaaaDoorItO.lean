/-
  The document's iterators (amblerref24) by contract: Open that opens. (Printed by mkito.py.)
-/
import Derived.Test.YtacdbgoffepaaaaDoorItR
import Derived.Lib.AppendZeros
namespace Go.Proofs.YtacdbgoffepaaaaDoor
open Go.RowKit Go.Lib

def nums (xs : List Int) : List Value := xs.map (.int .i64 ·)
theorem nums_one (l : List Int) : ∀ u ∈ nums l, u.oneCell' = true := fun u hu => by
  obtain ⟨x, _, rfl⟩ := List.mem_map.1 hu
  rfl
theorem nums_app (l m : List Int) : nums (l ++ m) = nums l ++ nums m := List.map_append
theorem ids_nums (E : List Cu) : ids E = nums (E.map Cu.id) := by simp [ids, nums]
theorem app_i64' {w : World} (base : Nat) (ty : TypeId) (v : Value) (n : Nat) (xs : List Value) (hown : w.ownsRow base 3 1 v n xs) (u : Value) (m : Nat) (ys : List Int) (hu : ArgAt w 1 u m (nums ys)) (hn : n + m ≤ 3000) (hbase : base ≤ w.heap.size) :
    ∃ v' w', (Builtin.append_ #[34, 34] ty #[v, u]).run Tryd.prog w = .ok v' w' ∧ w'.ownsRow base 3 1 v' (n + m) (xs ++ nums ys) ∧ w.grownBy w' v.ownBlock ∧ (v'.ownBlock = v.ownBlock ∨ v'.ownBlock = some w.heap.size) :=
  app_int base ty v n xs hown u m _ hu (nums_one _) hn hbase
theorem owns_base {w : World} {B B' z n : Nat} {e : TypeId} {v : Value} {xs : List Value} (h : w.ownsRow B e z v n xs) (hB : B' ≤ B) : w.ownsRow B' e z v n xs := by
  refine ⟨h.1, ?_⟩
  rcases h.2 with c | ⟨g, cap, cur, rfl, hb, rest⟩
  · exact .inl c
  · exact .inr ⟨g, cap, cur, rfl, by omega, rest⟩
/-- A row is kept when another block changes, of another type. -/
theorem owns_but {w w' : World} {B z n b : Nat} {e t : TypeId} {cs : Array Value} {v : Value} {xs : List Value} (h : w.ownsRow B e z v n xs) (hb : But b w w') (hB : Blk w b t cs) (hne : e ≠ t) : w'.ownsRow B e z v n xs := by
  refine ⟨h.1, ?_⟩
  rcases h.2 with c | ⟨g, cap, cur, rfl, hg0, hg, rest⟩
  · exact .inl c
  · refine .inr ⟨g, cap, cur, rfl, hg0, ?_, rest⟩
    refine (hb.block g (Array.getElem?_eq_some_iff.1 hg).1 fun c => ?_).trans hg
    have h2 : w.heap[b]? = some _ := hB
    rw [← c, hg] at h2
    injection h2 with h2
    injection h2 with _ h3 _
    exact hne h3
theorem row_nil (w : World) (e : TypeId) (z : Nat) : (w.alloc (.cells #[] e)).ownsRow w.heap.size e z (.slice (some ⟨w.heap.size, 0, none⟩) 0 0) 0 [] :=
  World.ownsRow_lit w #[] 0 (Nat.le_refl _) (by unfold maxLen; omega) (by simp)

/-- What the operations of Open's region hand back. -/
def spOpen (rb n : Nat) (vi : Value) (g : Int) (L : List Int) (j : Nat) : Sp :=
  ([.q (.pointer (some ⟨rb, 0, none⟩)), .r 0 [] 6, .q (.pointer (some ⟨rb, 0, none⟩)), .q (.pointer (some ⟨rb, 0, none⟩)), .q (.pointer (some ⟨rb, 2, none⟩)), .q vi, .r (0 + n) ([] ++ nums L) 12,
    .q (.pointer (some ⟨rb, 0, none⟩)), .q (.pointer (some ⟨rb, 0, none⟩)), .q (.pointer (some ⟨rb, 1, none⟩)), .q (.int .i64 g), .r 1 (nums [g]) 12, .r (0 + n + 1) (([] ++ nums L) ++ nums [g]) 999] : List Sp).getD j (.q undef)

set_option maxHeartbeats 4000000 in
set_option maxRecDepth 100000 in
theorem openr_yes {B : Nat} {w : World} {rb : Nat} {most given : Int} {E : List Cu} (H : RI B w rb most given E) (hfree : (E.length : Int) < most) (hl : E.length < 1000) (g0 : 0 ≤ given) (g1 : given ≤ 1000) :
    Calls Tryd.prog 43 #[.pointer (some ⟨rb, 0, none⟩)] w fun x w' => x = .returned (.tuple #[.int .i64 (given + 1), .int .i64 0]) ∧ ∃ b, RI B w' rb most (given + 1) (E ++ [⟨given + 1, b, 0, 0, false⟩]) ∧ ChK kindR B w w' := by
  obtain ⟨p, c, p2, c2, h1, h2, h3, _⟩ := H.cells
  have q0 := h1.cell 0
  have q1 := h1.cell 1
  have f1 := h1.free 1
  have q2 := h1.cell 2
  have hd : decide (most ≤ (E.length : Int)) = false := decide_eq_false (by omega)
  have hwg : IntKind.i64.wrap (given + 1) = given + 1 := by rw [IntKind.wrap_i64]; omega
  have mixed : Tryd.prog.follows .mixedOrders = true := by kernel_rfl
  have HX := Lib.hid (And.intro H (And.intro h1 (And.intro h2 h3)))
  clear h1 h2 h3 H
  go_enter Tryd.func43, Tryd.ntmps43
  go_upto_region 1 with fail
  go_quiet (fail)
  go_upto_region 4 with fail
  obtain ⟨w0, hw0⟩ : ∃ w0, w0 = (w.drewN nq).setCell ⟨rb, 1, none⟩ (.int .i64 (given + 1)) := ⟨_, rfl⟩
  rw [← hw0]
  have hbN : Below w.heap.size w (w.drewN nq) := below_drewN (Below.refl _ _) _
  have B1 := HX.out.2.1.below hbN
  have hbut : But rb (w.drewN nq) w0 := hw0 ▸ (But.refl rb _).set_ 1 _
  have h10 : Blk w0 rb 77 #[.int .i64 most, .int .i64 (given + 1), .slice p E.length c, .slice p2 E.length c2] := hw0 ▸ B1.set_ 1 _
  have h20 : w0.ownsRow B 3 1 (.slice p E.length c) E.length (ids E) := owns_but (owns_old hbN HX.out.2.2.1) hbut B1 (by decide)
  have h30 : w0.ownsRow B 62 1 (.slice p2 E.length c2) E.length (ptrs E) := owns_but (owns_old hbN HX.out.2.2.2) hbut B1 (by decide)
  have k0 : ArgAt w0 1 (.slice p E.length c) E.length (nums (E.map Cu.id)) := by rw [← ids_nums]; exact ArgAt.of_row h20
  clear q0 q1 q2 f1
  have q1 := h10.cell 1
  have q2 := h10.cell 2
  have HZ := Lib.hid (And.intro hbN (And.intro hbut (And.intro h10 (And.intro h20 h30))))
  have HK := HX
  clear hbN hbut h10 h20 h30 B1 hw0 HX
  refine wp_region_any mixed ?_
  refine wpAny_take (i := 0) rfl (by kernel_rfl) (by kernel_rfl) (by kernel_rfl) (fun _ _ _ h => h) (.inl ⟨rfl, fun w => rfl⟩) ?_
  refine any_inv (l := _) 13 [0] (RInv w0.heap.size w0 3 1 _ 13 (fun i => 21 + i) (spOpen rb E.length (.slice p E.length c) (given + 1) (E.map Cu.id))) (by decide) (by kernel_rfl) (by kernel_rfl) (by kernel_rfl) (by kernel_rfl) ?_ ?_ 12 _ _ _ ((headInv_start _ 13).set (mem_of_contains (by kernel_rfl)) (by decide)) (fun i hi => by cases List.mem_singleton.1 hi; kernel_rfl) ((RInv.start _).advq (i := 0) (by decide) (by decide) (fun j k _ _ h e => h (Nat.add_left_cancel e)) (fun j hj => (by omega : 21 + j < 53)) _ rfl) (by decide +kernel)
  · intro listed a W io hi hsz _ HI hr
    have hsz' : io < listed.size := by rw [hsz]; show io < 16; omega
    have dinj : ∀ j k, j < 13 → k < 13 → j ≠ k → (fun i => 21 + i) j ≠ (fun i => 21 + i) k := fun j k _ _ h e => h (Nat.add_left_cancel e)
    have hd : ∀ j, j < 13 → (fun i => 21 + i) j < 53 := fun j hj => (by omega : 21 + j < 53)
    have e0 : a.tmps[0]?.getD undef = .pointer (some ⟨rb, 0, none⟩) := raw (HI.keep 0 (fun j _ => (by omega : 21 + j ≠ 0)))
    have c1 : W.cell? ⟨rb, 1, none⟩ = some (.int .i64 (given + 1)) := (HI.bel.cell (block_lt_of_cell q1)).trans q1
    have c2 : W.cell? ⟨rb, 2, none⟩ = some (.slice p E.length c) := (HI.bel.cell (block_lt_of_cell q2)).trans q2
    have bW : Below w0.heap.size w0 W := HI.bel
    match io, hi with
    | 0, hi =>
      refine HI.quiet hi hsz' dinj hd rfl rfl rfl (fun K h => ?_)
      simp [go_sem, e0]
      exact h
    | 1, hi =>
      refine HI.build rfl hi hsz' dinj hd rfl rfl rfl rfl (by decide) (fun K h => ?_)
      simp [go_sem]
      exact h
    | 2, hi =>
      refine HI.quiet hi hsz' dinj hd rfl rfl rfl (fun K h => ?_)
      simp [go_sem, e0]
      exact h
    | 3, hi =>
      have d2 := raw (HI.qs 2 _ (by decide) (dep hr 2 (by kernel_rfl)) rfl)
      refine HI.quiet hi hsz' dinj hd rfl rfl rfl (fun K h => ?_)
      simp [go_sem, d2]
      exact h
    | 4, hi =>
      have d3 := raw (HI.qs 3 _ (by decide) (dep hr 3 (by kernel_rfl)) rfl)
      refine HI.quiet hi hsz' dinj hd rfl rfl rfl (fun K h => ?_)
      simp [go_sem, d3]
      exact h
    | 5, hi =>
      have d4 := raw (HI.qs 4 _ (by decide) (dep hr 4 (by kernel_rfl)) rfl)
      refine HI.quiet hi hsz' dinj hd rfl rfl rfl (fun K h => ?_)
      simp [go_sem, d4, c2]
      exact h
    | 6, hi =>
      have hun := getD_both (mem_ready.1 hr).1
      have hu := HI.qs 5 _ (by decide) (dep hr 5 (by kernel_rfl)) rfl
      refine HI.append rfl hi hsz' dinj hd (j1 := 1) (by decide) (dep hr 1 (by kernel_rfl)) rfl hun (by decide) rfl rfl (.tmp 26) _ _ rfl rfl _ hu rfl (fun v hv => app_i64' _ _ v _ _ hv _ _ _ (k0.below bW) (by omega) (by have := HI.bel.size; exact this))
    | 7, hi =>
      refine HI.quiet hi hsz' dinj hd rfl rfl rfl (fun K h => ?_)
      simp [go_sem, e0]
      exact h
    | 8, hi =>
      have d7 := raw (HI.qs 7 _ (by decide) (dep hr 7 (by kernel_rfl)) rfl)
      refine HI.quiet hi hsz' dinj hd rfl rfl rfl (fun K h => ?_)
      simp [go_sem, d7]
      exact h
    | 9, hi =>
      have d8 := raw (HI.qs 8 _ (by decide) (dep hr 8 (by kernel_rfl)) rfl)
      refine HI.quiet hi hsz' dinj hd rfl rfl rfl (fun K h => ?_)
      simp [go_sem, d8]
      exact h
    | 10, hi =>
      have d9 := raw (HI.qs 9 _ (by decide) (dep hr 9 (by kernel_rfl)) rfl)
      refine HI.quiet hi hsz' dinj hd rfl rfl rfl (fun K h => ?_)
      simp [go_sem, d9, c1]
      exact h
    | 11, hi =>
      have d10 := raw (HI.qs 10 _ (by decide) (dep hr 10 (by kernel_rfl)) rfl)
      refine HI.build rfl hi hsz' dinj hd rfl rfl rfl rfl (by decide) (fun K h => ?_)
      simp [go_sem, d10]
      exact h
    | 12, hi =>
      have hun := getD_both (mem_ready.1 hr).1
      have hrow := HI.rs 11 1 _ 12 (by decide) (dep hr 11 (by kernel_rfl)) rfl hun
      refine HI.append rfl hi hsz' dinj hd (j1 := 6) (by decide) (dep hr 6 (by kernel_rfl)) rfl hun (by decide) rfl rfl (.tmp 32) _ _ rfl rfl _ rfl rfl (fun v hv => app_i64' _ _ v _ _ hv _ 1 _ (ArgAt.of_row hrow) (by omega) (by have := HI.bel.size; exact this))
    | kk + 13, hi => exact absurd hi (by omega)
  · intro listed a W hall hsz HI
    have hout : ∀ c, 100 < c → listed.size = 16 → listed.getD c false = false := fun c hc h => by simp [Array.getD, h]; omega
    have r12 := HI.rs 12 _ _ 999 (by decide) (hall 12 (by decide)) rfl (hout 999 (by decide) hsz)
    have s0 : a.tmps.getD 0 undef = .pointer (some ⟨rb, 0, none⟩) := HI.keep 0 (fun j _ => (by omega : 21 + j ≠ 0))
    have s21 : a.tmps.getD 21 undef = .pointer (some ⟨rb, 0, none⟩) := HI.qs 0 _ (by decide) (hall 0 (by decide)) rfl
    have h62 : a.tmps.size = 53 := HI.size
    have hdf : a.defers = [] := HI.defers
    have bW : Below w0.heap.size w0 W := HI.bel
    clear HI hall hsz hout
    obtain ⟨⟨ts⟩, df⟩ := a
    have hz : ts.length = 53 := h62
    obtain rfl : df = [] := hdf
    clear h62
    obtain ⟨u0, ts0, rfl, hz0⟩ := cons_of hz
    clear hz
    obtain ⟨u1, ts1, rfl, hz1⟩ := cons_of hz0
    clear hz0
    obtain ⟨u2, ts2, rfl, hz2⟩ := cons_of hz1
    clear hz1
    obtain ⟨u3, ts3, rfl, hz3⟩ := cons_of hz2
    clear hz2
    obtain ⟨u4, ts4, rfl, hz4⟩ := cons_of hz3
    clear hz3
    obtain ⟨u5, ts5, rfl, hz5⟩ := cons_of hz4
    clear hz4
    obtain ⟨u6, ts6, rfl, hz6⟩ := cons_of hz5
    clear hz5
    obtain ⟨u7, ts7, rfl, hz7⟩ := cons_of hz6
    clear hz6
    obtain ⟨u8, ts8, rfl, hz8⟩ := cons_of hz7
    clear hz7
    obtain ⟨u9, ts9, rfl, hz9⟩ := cons_of hz8
    clear hz8
    obtain ⟨u10, ts10, rfl, hz10⟩ := cons_of hz9
    clear hz9
    obtain ⟨u11, ts11, rfl, hz11⟩ := cons_of hz10
    clear hz10
    obtain ⟨u12, ts12, rfl, hz12⟩ := cons_of hz11
    clear hz11
    obtain ⟨u13, ts13, rfl, hz13⟩ := cons_of hz12
    clear hz12
    obtain ⟨u14, ts14, rfl, hz14⟩ := cons_of hz13
    clear hz13
    obtain ⟨u15, ts15, rfl, hz15⟩ := cons_of hz14
    clear hz14
    obtain ⟨u16, ts16, rfl, hz16⟩ := cons_of hz15
    clear hz15
    obtain ⟨u17, ts17, rfl, hz17⟩ := cons_of hz16
    clear hz16
    obtain ⟨u18, ts18, rfl, hz18⟩ := cons_of hz17
    clear hz17
    obtain ⟨u19, ts19, rfl, hz19⟩ := cons_of hz18
    clear hz18
    obtain ⟨u20, ts20, rfl, hz20⟩ := cons_of hz19
    clear hz19
    obtain ⟨u21, ts21, rfl, hz21⟩ := cons_of hz20
    clear hz20
    obtain ⟨u22, ts22, rfl, hz22⟩ := cons_of hz21
    clear hz21
    obtain ⟨u23, ts23, rfl, hz23⟩ := cons_of hz22
    clear hz22
    obtain ⟨u24, ts24, rfl, hz24⟩ := cons_of hz23
    clear hz23
    obtain ⟨u25, ts25, rfl, hz25⟩ := cons_of hz24
    clear hz24
    obtain ⟨u26, ts26, rfl, hz26⟩ := cons_of hz25
    clear hz25
    obtain ⟨u27, ts27, rfl, hz27⟩ := cons_of hz26
    clear hz26
    obtain ⟨u28, ts28, rfl, hz28⟩ := cons_of hz27
    clear hz27
    obtain ⟨u29, ts29, rfl, hz29⟩ := cons_of hz28
    clear hz28
    obtain ⟨u30, ts30, rfl, hz30⟩ := cons_of hz29
    clear hz29
    obtain ⟨u31, ts31, rfl, hz31⟩ := cons_of hz30
    clear hz30
    obtain ⟨u32, ts32, rfl, hz32⟩ := cons_of hz31
    clear hz31
    obtain ⟨u33, ts33, rfl, hz33⟩ := cons_of hz32
    clear hz32
    obtain ⟨u34, ts34, rfl, hz34⟩ := cons_of hz33
    clear hz33
    obtain ⟨u35, ts35, rfl, hz35⟩ := cons_of hz34
    clear hz34
    obtain ⟨u36, ts36, rfl, hz36⟩ := cons_of hz35
    clear hz35
    obtain ⟨u37, ts37, rfl, hz37⟩ := cons_of hz36
    clear hz36
    obtain ⟨u38, ts38, rfl, hz38⟩ := cons_of hz37
    clear hz37
    obtain ⟨u39, ts39, rfl, hz39⟩ := cons_of hz38
    clear hz38
    obtain ⟨u40, ts40, rfl, hz40⟩ := cons_of hz39
    clear hz39
    obtain ⟨u41, ts41, rfl, hz41⟩ := cons_of hz40
    clear hz40
    obtain ⟨u42, ts42, rfl, hz42⟩ := cons_of hz41
    clear hz41
    obtain ⟨u43, ts43, rfl, hz43⟩ := cons_of hz42
    clear hz42
    obtain ⟨u44, ts44, rfl, hz44⟩ := cons_of hz43
    clear hz43
    obtain ⟨u45, ts45, rfl, hz45⟩ := cons_of hz44
    clear hz44
    obtain ⟨u46, ts46, rfl, hz46⟩ := cons_of hz45
    clear hz45
    obtain ⟨u47, ts47, rfl, hz47⟩ := cons_of hz46
    clear hz46
    obtain ⟨u48, ts48, rfl, hz48⟩ := cons_of hz47
    clear hz47
    obtain ⟨u49, ts49, rfl, hz49⟩ := cons_of hz48
    clear hz48
    obtain ⟨u50, ts50, rfl, hz50⟩ := cons_of hz49
    clear hz49
    obtain ⟨u51, ts51, rfl, hz51⟩ := cons_of hz50
    clear hz50
    obtain ⟨u52, ts52, rfl, hz52⟩ := cons_of hz51
    clear hz51
    obtain rfl := List.length_eq_zero_iff.1 hz52
    clear hz52
    obtain rfl : u0 = .pointer (some ⟨rb, 0, none⟩) := s0
    obtain rfl : u21 = .pointer (some ⟨rb, 0, none⟩) := s21
    have R12 : W.ownsRow w0.heap.size 3 1 u33 (E.length + 1) (nums (E.map Cu.id ++ [given + 1])) := by
      have h9 : W.ownsRow w0.heap.size 3 1 u33 (0 + E.length + 1) (([] ++ nums (E.map Cu.id)) ++ nums [given + 1]) := r12
      rw [List.nil_append, Nat.zero_add] at h9
      rw [nums_app]
      exact h9
    clear r12
    have HY := Lib.hid (And.intro R12 bW)
    clear R12 bW q1 q2 k0
    simp only [List.drop_succ_cons, List.drop_zero]
    have b1 := HZ.out.2.2.1.below HY.out.2
    have d2 := b1.cell 2
    have d3 := b1.cell 3
    have f2 := b1.free 2
    obtain ⟨pi, ci, hpi⟩ : ∃ pi ci, u33 = .slice pi (E.length + 1) ci := by
      obtain ⟨p9, c9, e9, _⟩ := row1 HY.out.1
      exact ⟨p9, c9, e9⟩
    subst hpi
    clear b1
    go_upto_region 5 with fail
    obtain ⟨W1, hW1⟩ : ∃ W1, W1 = W.setCell ⟨rb, 2, none⟩ (.slice pi (E.length + 1) ci) := ⟨_, rfl⟩
    rw [← hW1]
    clear d2 d3 f2
    obtain ⟨hbN, hbut, h10, h20, h30⟩ := HZ.out
    obtain ⟨R12, bW⟩ := HY.out
    have bw1 : But rb W W1 := hW1 ▸ (But.refl rb W).set_ 2 _
    have b0 := h10.below bW
    have b1 : Blk W1 rb 77 #[.int .i64 most, .int .i64 (given + 1), .slice pi (E.length + 1) ci, .slice p2 E.length c2] := hW1 ▸ b0.set_ 2 _
    have r1 : W1.ownsRow w0.heap.size 3 1 (.slice pi (E.length + 1) ci) (E.length + 1) (nums (E.map Cu.id ++ [given + 1])) := owns_but R12 bw1 b0 (by decide)
    have q1 : W1.ownsRow B 62 1 (.slice p2 E.length c2) E.length (ptrs E) := owns_but (owns_old bW h30) bw1 b0 (by decide)
    have hA1 : Below W1.heap.size W1 (W1.alloc (.cells #[] 62)) := (Below.refl _ _).alloc (Nat.le_refl _) _
    have ra := row_nil W1 62 1
    obtain ⟨v4, W4, e4, o4, gr4, n4⟩ := app_ptr W1.heap.size 75 _ 0 [] ra (.slice p2 E.length c2) E.length (ptrs E) ((ArgAt.of_row q1).below hA1) (ptrs_one E) (by omega) hA1.size
    have b4 : Below W1.heap.size W1 W4 := hA1.trans ((Chg.grown gr4).below (fun k hk => (ra.lt k hk).1) hA1.size)
    rw [List.nil_append, Nat.zero_add] at o4
    have hAb : Below W4.heap.size W4 (W4.alloc (.cells #[.bool false, .bool false, .int .u64 0, .int .u64 0] 64)) := (Below.refl _ _).alloc (Nat.le_refl _) _
    have nb := Blk.new W4 64 #[.bool false, .bool false, .int .u64 0, .int .u64 0]
    obtain ⟨Wb, hWb⟩ : ∃ Wb, Wb = W4.alloc (.cells #[.bool false, .bool false, .int .u64 0, .int .u64 0] 64) := ⟨_, rfl⟩
    rw [← hWb] at hAb nb
    have hAc : Below Wb.heap.size Wb (Wb.alloc (.cells #[.pointer (some ⟨W4.heap.size, 0, none⟩)] 62)) := (Below.refl _ _).alloc (Nat.le_refl _) _
    have bc := hAb.trans (hAc.mono hAb.size)
    have rc : (Wb.alloc (.cells #[.pointer (some ⟨W4.heap.size, 0, none⟩)] 62)).ownsRow Wb.heap.size 62 1 (.slice (some ⟨Wb.heap.size, 0, none⟩) 1 1) 1 [.pointer (some ⟨W4.heap.size, 0, none⟩)] := World.ownsRow_lit Wb #[.pointer (some ⟨W4.heap.size, 0, none⟩)] 1 (Nat.le_refl _) (by unfold maxLen; omega) (by simp)
    obtain ⟨v6, W6, e6, o6, gr6, n6⟩ := app_ptr W1.heap.size 75 _ E.length _ (owns_old bc o4) _ 1 _ (ArgAt.of_row rc) (fun u hu => by rw [List.mem_singleton.1 hu]; rfl) (by omega) (by have := b4.size; have := bc.size; omega)
    have b6 : Below W1.heap.size W1 W6 := (b4.trans (bc.mono b4.size)).trans ((Chg.grown gr6).below (fun k hk => (o4.lt k hk).1) (by have := b4.size; have := bc.size; omega))
    have hsz : Wb.heap.size = W4.heap.size + 1 := by rw [hWb]; exact Array.size_push _
    rw [hsz, hWb] at e6
    have d3 := (b1.below hA1).cell 3
    have b16 := b1.below b6
    have z1 := b16.cell 1
    have z3 := b16.cell 3
    have y3 := b16.free 3
    have nb6 : Blk W6 W4.heap.size 64 #[.bool false, .bool false, .int .u64 0, .int .u64 0] := (Chg.grown gr6).blk (nb.below hAc) (fun c => by have := (o4.lt _ c).2; omega)
    obtain ⟨p6, c6, rfl, _⟩ := row1 o6
    have HQ := Lib.hid (And.intro b6 (And.intro o6 (And.intro nb6 (And.intro b16 (And.intro r1 (And.intro bw1 (And.intro bW b4.size)))))))
    clear hbN hbut h10 h20 h30 R12 bW bw1 b0 b1 r1 q1 hA1 ra o4 gr4 n4 b4 hAb nb hAc bc rc o6 gr6 n6 b6 nb6 b16 hW1 hWb hsz
    go_wp2_with (first
      | (at_builtin; refine Lib.wpList_append_run _ rfl _ _ _ _ rfl _ _ rfl rfl _ _ e4 ?_)
      | (at_builtin; refine Lib.wpList_append_run _ rfl _ _ _ _ rfl _ _ rfl rfl _ _ e6 ?_))
    go_ret2
    obtain ⟨b6, o6, nb6, b16, r1, bw1, bW, hs4⟩ := HQ.out
    obtain ⟨hbN, hbut, h10, h20, h30⟩ := HZ.out
    obtain ⟨H, h1, h2, h3⟩ := HK.out
    have hs0 : w.heap.size ≤ w0.heap.size := Nat.le_trans hbN.size hbut.size
    have hs1 : W.heap.size ≤ W1.heap.size := bw1.size
    have hsW := bW.size
    have hs6 := b6.size
    have hBr := H.lo.1
    have hrb := h1.lt
    have hu6 : But rb W6 (W6.setCell ⟨rb, 3, none⟩ (.slice p6 (E.length + 1) c6)) := (But.refl rb W6).set_ 3 _
    have c1 : ChK kindR B w (w.drewN nq) := ChK.of hbN
    have c2' : ChK kindR B (w.drewN nq) w0 := ChK.but hbut hBr (h1.below hbN) rfl
    have c3 : ChK kindR B w0 W := ChK.of bW
    have c4 : ChK kindR B W W1 := ChK.but bw1 hBr (h10.below bW) rfl
    have c5 : ChK kindR B W1 W6 := ChK.of b6
    have c6' : ChK kindR B W6 (W6.setCell ⟨rb, 3, none⟩ (.slice p6 (E.length + 1) c6)) := ChK.but hu6 hBr b16 rfl
    have hlow : B ≤ W1.heap.size := by omega
    refine ⟨rfl, W4.heap.size, ⟨⟨_, _, b16.set_ 3 _, ?_, ?_⟩, ?_, ?_, ?_, ?_⟩, ((((c1.trans c2').trans c3).trans c4).trans c5).trans c6'⟩
    · have r2 := owns_but (owns_old b6 r1) hu6 b16 (by decide)
      have r3 := owns_base r2 (show B ≤ w0.heap.size by omega)
      have e1 : (E ++ [(⟨given + 1, W4.heap.size, 0, 0, false⟩ : Cu)]).map (fun e => Value.int .i64 e.id) = nums (E.map Cu.id ++ [given + 1]) := by simp [nums]
      have e2 : (E ++ [(⟨given + 1, W4.heap.size, 0, 0, false⟩ : Cu)]).length = E.length + 1 := by simp
      rw [e1, e2]
      exact r3
    · have r2 := owns_but o6 hu6 b16 (by decide)
      have r3 := owns_base r2 hlow
      have e1 : (E ++ [(⟨given + 1, W4.heap.size, 0, 0, false⟩ : Cu)]).map (fun e => Value.pointer (some ⟨e.b, 0, none⟩)) = ptrs E ++ [.pointer (some ⟨W4.heap.size, 0, none⟩)] := by simp [ptrs]
      have e2 : (E ++ [(⟨given + 1, W4.heap.size, 0, 0, false⟩ : Cu)]).length = E.length + 1 := by simp
      rw [e1, e2]
      exact r3
    · intro e he
      rcases List.mem_append.1 he with he | he
      · have hc := H.cur e he
        have hne : e.b ≠ rb := fun x => by
          obtain ⟨s, HH, K, hB, _⟩ := hc
          have k1 : w.heap[e.b]? = some _ := hB
          have k2 : w.heap[rb]? = some _ := h1
          rw [x, k2] at k1
          cases k1
        exact (((((hc.below hbN).but hbut hne).below bW).but bw1 hne).below b6).but hu6 hne
      · rw [List.mem_singleton.1 he]
        have hne : W4.heap.size ≠ rb := fun x => by
          have k1 : W6.heap[W4.heap.size]? = some _ := nb6
          have k2 : W6.heap[rb]? = some _ := b16
          rw [x, k2] at k1
          cases k1
        exact ⟨false, 0, 0, nb6.but hu6 hne, by decide, by decide, (fun x => by cases x), (fun _ _ => ⟨rfl, rfl⟩), (fun _ x => by cases x)⟩
    · refine List.pairwise_append.2 ⟨H.dis, List.pairwise_singleton _ _, fun a ha b hb => ?_⟩
      rw [List.mem_singleton.1 hb]
      have := (H.cur a ha).lt
      show a.b ≠ W4.heap.size
      omega
    · refine ⟨hBr, fun e he => ?_⟩
      rcases List.mem_append.1 he with he | he
      · exact H.lo.2 e he
      · rw [List.mem_singleton.1 he]
        show B ≤ W4.heap.size
        omega
    · rw [List.length_append, List.length_singleton]
      omega
end Go.Proofs.YtacdbgoffepaaaaDoor
