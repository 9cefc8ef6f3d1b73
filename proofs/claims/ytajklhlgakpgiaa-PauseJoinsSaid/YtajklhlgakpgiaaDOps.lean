/-
  What a record of pauses answers: Note, Many, Most, Rows; rows compared.
-/
import Derived.Test.YtajklhlgakpgiaaDRec
import Derived.Laws.OwnMore
import Derived.ChangeKeysEq
namespace Go.Proofs.Ytajklhlgakpgiaa
open Go.RowKit Go.Lib

theorem owns_old {w w' : World} {base z n : Nat} {e : TypeId} {v : Value} {xs : List Value} (h : Below w.heap.size w w') (hw : w.ownsRow base e z v n xs) : w'.ownsRow base e z v n xs := by
  refine ⟨hw.1, ?_⟩
  rcases hw.2 with c | ⟨g, cap, cur, rfl, hb, hg, rest⟩
  · exact .inl c
  · exact .inr ⟨g, cap, cur, rfl, hb, (h.block g (lt_of_block hg)).trans hg, rest⟩
theorem owns0 {w : World} {B z n : Nat} {e : TypeId} {v : Value} {xs : List Value} (h : w.ownsRow B e z v n xs) : w.ownsRow 0 e z v n xs := by
  refine ⟨h.1, ?_⟩
  rcases h.2 with c | ⟨g, cap, cur, rfl, hb, rest⟩
  · exact .inl c
  · exact .inr ⟨g, cap, cur, rfl, Nat.zero_le _, rest⟩
/-- What an append is handed: nil, or a row that lies in the world. -/
def ArgAt (w : World) (z : Nat) (u : Value) (m : Nat) (news : List Value) : Prop :=
  (u = .slice none 0 0 ∧ m = 0 ∧ news = []) ∨ ∃ a c, u = .slice (some a) m c ∧ news.length = m * z ∧ ∀ j v, news[j]? = some v → w.cell? (a.add j) = some v
theorem ArgAt.of_row {w : World} {B z n : Nat} {e : TypeId} {v : Value} {xs : List Value} (h : w.ownsRow B e z v n xs) : ArgAt w z v n xs := by
  have hl := h.1
  rcases h.2 with ⟨rfl, rfl⟩ | ⟨g, cap, cur, rfl, hb, hg, hc, _, hs, ht⟩
  · exact .inl ⟨rfl, rfl, List.length_eq_zero_iff.1 (by simpa using hl)⟩
  · refine .inr ⟨⟨g, 0, none⟩, cap, rfl, hl, fun j u hj => ?_⟩
    rw [Addr.add_lit, Nat.zero_add, cell_of_row w g _ cur _ _ hg, ← Array.getElem?_toList]
    rw [← ht, List.getElem?_take] at hj
    split at hj
    · exact hj
    · cases hj
theorem ArgAt.below {w w' : World} {z m : Nat} {u : Value} {news : List Value} (h : ArgAt w z u m news) (hb : Below w.heap.size w w') : ArgAt w' z u m news := by
  rcases h with h | ⟨a, c, rfl, h1, h2⟩
  · exact .inl h
  · exact .inr ⟨a, c, rfl, h1, fun j v hj => (hb.cell (block_lt_of_cell (h2 j v hj))).trans (h2 j v hj)⟩
theorem app_arg {w : World} (base : Nat) (t ty e : TypeId) (i : TypeInfo) (zv : Value) (z bytes : Nat) (ht : Try.prog.underlying t = some (.slice e)) (hi : Try.prog.info? e = some i) (hz : i.zero = some zv)
    (hsize : i.size = z) (hby : i.bytes = bytes) (hzs : zv.cells.size = z) (hsz : 0 < z) (hb16 : bytes ≤ 16)
    (v : Value) (n : Nat) (xs : List Value) (hown : w.ownsRow base e z v n xs) (u : Value) (m : Nat) (news : List Value) (hu : ArgAt w z u m news) (h1 : ∀ u ∈ news, u.oneCell' = true) (hn : n + m ≤ 3000) (hbase : base ≤ w.heap.size) :
    ∃ v' w', (Builtin.append_ #[t, t] ty #[v, u]).run Try.prog w = .ok v' w' ∧ w'.ownsRow base e z v' (n + m) (xs ++ news) ∧ w.grownBy w' v.ownBlock ∧ (v'.ownBlock = v.ownBlock ∨ v'.ownBlock = some w.heap.size) := by
  rcases hu with ⟨rfl, rfl, rfl⟩ | ⟨a, c, rfl, h2, h3⟩
  · refine ⟨v, w, run_append_owned_none w base t ty e i z ht hi v n xs hown, by simpa using hown, ⟨rfl, rfl, rfl, Nat.le_refl _, fun _ _ _ => rfl⟩, .inl rfl⟩
  · obtain ⟨v', w', g1, g2, g3, _, g5⟩ := run_append_own_at (P := Try.prog) w base t ty e i zv z bytes ht hi hz hsize hby hzs hsz v n xs hown a m c news h2 h3 h1 (by unfold maxLen; omega) (by have : (n + m) * bytes ≤ 3000 * 16 := Nat.mul_le_mul hn hb16; omega) hbase
    exact ⟨v', w', g1, g2, g3, g5⟩
theorem info_arr2 : ∃ i, Try.prog.info? 42 = some i ∧ i.zero = some (.agg #[.int .i64 0, .int .i64 0]) ∧ i.size = 2 ∧ i.bytes = 16 := by
  have h : (Try.prog.info? 42).map (fun i => (i.zero, i.size, i.bytes)) = some (some (.agg #[.int .i64 0, .int .i64 0]), 2, 16) := by kernel_rfl
  obtain ⟨i, hi, h2⟩ := Option.map_eq_some_iff.1 h
  injection h2 with h3 h4
  injection h4 with h5 h6
  exact ⟨i, hi, h3, h5, h6⟩
theorem app_arr2 {w : World} (base : Nat) (ty : TypeId) (v : Value) (n : Nat) (xs : List Pr2) (hown : w.ownsRow base 42 2 v n (flat2 xs)) (u : Value) (m : Nat) (ys : List Pr2) (hu : ArgAt w 2 u m (flat2 ys)) (hn : n + m ≤ 3000) (hbase : base ≤ w.heap.size) :
    ∃ v' w', (Builtin.append_ #[39, 39] ty #[v, u]).run Try.prog w = .ok v' w' ∧ w'.ownsRow base 42 2 v' (n + m) (flat2 (xs ++ ys)) ∧ w.grownBy w' v.ownBlock ∧ (v'.ownBlock = v.ownBlock ∨ v'.ownBlock = some w.heap.size) := by
  obtain ⟨i, hi, hz, hs, hb⟩ := info_arr2
  rw [flat2_app]
  exact app_arg base _ ty _ i _ 2 16 Try.underlying39 hi hz hs hb rfl (by omega) (by omega) v n _ hown u m _ hu (flat2_one _) hn hbase

def clampP (n : Int) : Int := min (max n 0) 1099511627776
theorem note_c (S : Nat → Prop) (r : Nat) (l : List Pr2) (n many : Int) (w : World) (H : PR w S r l many) (hm : many < 1000000) (hl : l.length < 900) :
    Calls Try.prog 26 #[.pointer (some ⟨r, 0, none⟩), .int .i64 n] w fun e w' => e = .returned (.tuple #[]) ∧ ∃ S', PR w' S' r (addL (clampP n) 1 l) (many + 1) ∧ Chg S w w' ∧ New w S S' := by
  have HC := Lib.hid (add_c S r l (clampP n) 1 many w H (by omega) (by omega) hl)
  clear H
  go_enter Try.func26, Try.ntmps26
  go_wp2_with fail
  refine HC.out.mono ?_
  rintro e w1 ⟨rfl, h1⟩
  have HH := Lib.hid h1
  clear h1
  go_wp2_with fail
  refine bodyPost_end (results_none rfl _ _ _) rfl ?_
  exact ⟨rfl, HH.out⟩
theorem many_c (S : Nat → Prop) (r : Nat) (l : List Pr2) (many : Int) (w : World) (H : PR w S r l many) :
    Calls Try.prog 13 #[.pointer (some ⟨r, 0, none⟩)] w fun e w' => e = .returned (.int .i64 many) ∧ w = w' := by
  obtain ⟨v, h1, _, _⟩ := H.ex
  have c1 := h1.cell 1
  clear H h1
  go_enter Try.func13, Try.ntmps13
  go_wp2
  go_ret
  exact ⟨rfl, rfl⟩
def mostP (l : List Pr2) : Int := match l.getLast? with | some x => x.key | none => 0
theorem most_c (S : Nat → Prop) (r : Nat) (l : List Pr2) (many : Int) (w : World) (H : PR w S r l many) :
    Calls Try.prog 15 #[.pointer (some ⟨r, 0, none⟩)] w fun e w' => e = .returned (.int .i64 (mostP l)) ∧ Below w.heap.size w w' := by
  obtain ⟨v, h1, h2, _⟩ := H.ex
  have hsm := H.small
  obtain ⟨p, c, rfl, hn, hnc, _, hR, _⟩ := owns_row h2
  have c0 := h1.cell 0
  have mixed : Try.prog.follows .mixedOrders = true := by kernel_rfl
  clear h1 h2 H
  rcases Nat.eq_zero_or_pos l.length with hz | hp
  · have hl : l = [] := List.length_eq_zero_iff.1 hz
    subst hl
    clear hR
    go_enter Try.func15, Try.ntmps15
    go_wp2_with fail
    go_ret
    exact ⟨rfl, Below.refl _ _⟩
  · obtain ⟨m, hm⟩ : ∃ m, l.length = m + 1 := ⟨l.length - 1, by omega⟩
    obtain ⟨a, rfl, k0, k1⟩ := hR m (by omega)
    have hlast : mostP l = (l[m]'(by omega)).key := by
      rw [mostP, List.getLast?_eq_getElem?, show l.length - 1 = m by omega, List.getElem?_eq_getElem (by omega)]
    rw [hlast]
    generalize (l[m]'(by omega)).key = x at k0
    have hne : ((l.length : Int) == 0) = false := by rw [beq_eq_false_iff_ne]; omega
    have hw1 : IntKind.i64.wrap ((l.length : Int) - 1) = (m : Int) := by rw [IntKind.wrap_i64]; omega
    have hmN : (m : Int) < l.length := by omega
    have hne2 : ¬ l.length = 0 := by omega
    have hne3 : ¬ l = [] := fun e => by rw [e] at hne2; exact hne2 rfl
    clear hR k1 hm hlast
    go_enter Try.func15, Try.ntmps15
    go_upto_region 3 with fail
    go_quiet (fail)
    go_wp2_with fail
    go_ret
    exact ⟨rfl, below_drewN (Below.refl _ _) _⟩

set_option maxHeartbeats 1000000 in
set_option maxRecDepth 100000 in
theorem rowsR_c (S : Nat → Prop) (r : Nat) (l : List Pr2) (many : Int) (w : World) (H : PR w S r l many) :
    Calls Try.prog 22 #[.pointer (some ⟨r, 0, none⟩)] w fun e w' => ∃ v', e = .returned v' ∧ w'.ownsRow w.heap.size 42 2 v' l.length (flat2 l) ∧ Below w.heap.size w w' := by
  obtain ⟨v, h1, h2, _⟩ := H.ex
  have hsm := H.small
  obtain ⟨p, c, rfl, hn, hnc, _, hR, _⟩ := owns_row h2
  have c0 := h1.cell 0
  have HR := Lib.hid (And.intro hR hsm)
  clear h1 h2 H hR
  go_enter Try.func22, Try.ntmps22
  go_wp2_with fail
  go_loopw [3, 11] (fun s3 s11 wr => ∃ i : Nat, i ≤ l.length ∧ s11 = .int .i64 i ∧ wr.ownsRow w.heap.size 42 2 s3 i (flat2 (l.take i)) ∧ Below w.heap.size w wr) (fun _ s11 _ => l.length - (RowKit.intOf s11).toNat)
  case atStart => exact ⟨0, Nat.zero_le _, rfl, World.ownsRow_nil _ _ _ _, Below.refl _ _⟩
  case round =>
    obtain ⟨i, hi, rfl, hO, hb⟩ := hrel
    obtain ⟨p3, c3, rfl, _⟩ := owns_row (owns0 hO)
    by_cases hlt : i < l.length
    · have hlt1 : (i : Int) < l.length := by omega
      obtain ⟨a, rfl, k0, k1⟩ := (HR.out.1.below hb) i hlt
      obtain ⟨x, hx⟩ : ∃ x, x = l[i] := ⟨_, rfl⟩
      rw [← hx] at k0 k1
      have hw3 : IntKind.i64.wrap ((i : Int) + 1) = (i : Int) + 1 := by rw [IntKind.wrap_i64]; omega
      have hA1 : Below wr.heap.size wr (wr.alloc (.cells #[.int .i64 x.key, .int .i64 x.val] 58)) := (Below.refl _ _).alloc (Nat.le_refl _) _
      have hA2 : Below wr.heap.size wr ((wr.alloc (.cells #[.int .i64 x.key, .int .i64 x.val] 58)).alloc (.cells #[.int .i64 x.key, .int .i64 x.val] 42)) := hA1.alloc (by simp) _
      obtain ⟨v8, w8, g1, g2, g3, _⟩ := app_arr2 w.heap.size 39 _ i (l.take i) (owns_old hA2 hO) (.slice (some ⟨wr.heap.size + 1, 0, none⟩) 1 1) 1 [x] (.inr ⟨⟨wr.heap.size + 1, 0, none⟩, 1, rfl, rfl, fun t u ht => by
        have hB := Blk.new (wr.alloc (.cells #[.int .i64 x.key, .int .i64 x.val] 58)) 42 #[.int .i64 x.key, .int .i64 x.val]
        have e : (wr.alloc (.cells #[.int .i64 x.key, .int .i64 x.val] 58)).heap.size = wr.heap.size + 1 := by simp
        rw [e] at hB
        rw [Addr.add_lit, Nat.zero_add, hB.cell]
        match t, ht with
        | 0, ht => exact ht
        | 1, ht => exact ht
        | t + 2, ht => simp [flat2, Pr2.cells] at ht⟩) (by omega) (by have := hb.size; have := hA2.size; omega)
      have hgb : Below w.heap.size wr w8 := (hA2.mono hb.size).trans ((Chg.grown g3).below (fun k hk => (hO.lt k hk).1) (by have := hb.size; have := hA2.size; omega))
      obtain ⟨p8, c8, rfl, _⟩ := owns_row (owns0 g2)
      have HD := Lib.hid (And.intro g2 (And.intro (hb.trans hgb) hx))
      clear hO hb hA1 hA2 g2 g3 hgb hx
      go_wp2_with (at_builtin; refine Lib.wpList_append_run _ rfl _ _ _ _ rfl _ _ rfl rfl _ _ g1 ?_)
      go_roundw
      case rel =>
        refine ⟨i + 1, by omega, rfl, ?_, HD.out.2.1⟩
        have h9 : l.take (i + 1) = l.take i ++ [x] := by
          rw [List.take_add_one, List.getElem?_eq_getElem hlt, HD.out.2.2]
          rfl
        rw [h9]
        exact HD.out.1
      case measure => simp only [RowKit.intOf]; omega
    · obtain rfl : i = l.length := by omega
      have hlt1 : ¬ (l.length : Int) < l.length := by omega
      have HD := Lib.hid (And.intro hO hb)
      clear hO hb
      go_wp2_with fail
      go_ret
      have h9 := HD.out.1
      rw [List.take_of_length_le (Nat.le_refl _)] at h9
      exact ⟨_, rfl, h9, HD.out.2⟩

theorem info_arr : ∃ i, Try.prog.info? 3 = some i ∧ i.size = 1 := by
  have h : (Try.prog.info? 3).map (fun i => i.size) = some 1 := by kernel_rfl
  obtain ⟨i, hi, h2⟩ := Option.map_eq_some_iff.1 h
  exact ⟨i, hi, h2⟩
theorem eq_int (d : Nat) (a b : Int) (W : World) : (Op.equalIn (d + 1) 3 (.int .i64 a) (.int .i64 b)).run Try.prog W = .ok (a == b) W := by
  simp [Op.equalIn, run_underlying Try.underlying3]
theorem eq_arr2 (a b c d : Int) (W : World) : (Op.equalIn 10000 42 (.agg #[.int .i64 a, .int .i64 b]) (.agg #[.int .i64 c, .int .i64 d])).run Try.prog W = .ok (a == c && b == d) W := by
  obtain ⟨i, hi, hs⟩ := info_arr
  have hc : Try.prog.cellsOf 3 = 1 := by kernel_rfl
  rw [show (10000 : Nat) = 9999 + 1 from rfl, run_equalIn_array W 9999 _ _ Try.underlying42 hi, hc]
  have e1 := eq_int 9998 a c
  have e2 := eq_int 9998 b d
  simp only [show List.range 2 = [0, 1] from rfl, Op.eqItems, Sem.run_bind, part]
  simp [e1, e2]
  by_cases h1 : a = c
  · by_cases h2 : b = d
    · simp [h1, h2]
    · simp [h1, h2]
  · simp [h1]

set_option maxHeartbeats 1000000 in
set_option maxRecDepth 100000 in
theorem eqrows_c (v u : Value) (B B' : Nat) (l : List Pr2) (w : World) (hb : l.length ≤ 1000) (hv : w.ownsRow B 42 2 v l.length (flat2 l)) (hu : w.ownsRow B' 42 2 u l.length (flat2 l)) :
    Calls Try.prog 21 #[v, u] w fun e w' => e = .returned (.bool true) ∧ Below w.heap.size w w' := by
  obtain ⟨p, c, rfl, hn, hnc, _, hR, _⟩ := owns_row (owns0 hv)
  obtain ⟨q, d, rfl, hm, hmd, _, hQ, _⟩ := owns_row (owns0 hu)
  have HR := Lib.hid (And.intro hR hQ)
  have mixed : Try.prog.follows .mixedOrders = true := by kernel_rfl
  clear hR hQ hv hu
  go_enter Try.func21, Try.ntmps21
  go_wp2_with fail
  go_loopw [14] (fun s14 wr => ∃ i : Nat, i ≤ l.length ∧ s14 = .int .i64 i ∧ Below w.heap.size w wr) (fun s14 _ => l.length - (RowKit.intOf s14).toNat)
  case atStart => exact ⟨0, Nat.zero_le _, rfl, Below.refl _ _⟩
  case round =>
    obtain ⟨i, hi, rfl, hb1⟩ := hrel
    by_cases hlt : i < l.length
    · have hlt1 : (i : Int) < l.length := by omega
      obtain ⟨a, rfl, k0, k1⟩ := (HR.out.1.below hb1) i hlt
      obtain ⟨b, rfl, j0, j1⟩ := (HR.out.2.below hb1) i hlt
      obtain ⟨x, hx⟩ : ∃ x, x = l[i] := ⟨_, rfl⟩
      rw [← hx] at k0 k1 j0 j1
      have hw3 : IntKind.i64.wrap ((i : Int) + 1) = (i : Int) + 1 := by rw [IntKind.wrap_i64]; omega
      have hA1 : Below wr.heap.size wr (wr.alloc (.cells #[.int .i64 x.key, .int .i64 x.val] 42)) := (Below.refl _ _).alloc (Nat.le_refl _) _
      have bB := Blk.new wr 42 #[.int .i64 x.key, .int .i64 x.val]
      have m0 := bB.cell 0
      have m1 := bB.cell 1
      have j0' := (hA1.cell (block_lt_of_cell j0)).trans j0
      have j1' := (hA1.cell (p := ⟨(b.add (i * 2)).block, (b.add (i * 2)).off + 1, none⟩) (block_lt_of_cell j1)).trans j1
      have HD := Lib.hid (hb1.trans (hA1.mono hb1.size))
      clear hb1 hA1 bB hx
      have hee : ∀ W, (Op.equalIn 10000 42 (.agg #[.int .i64 x.key, .int .i64 x.val]) (.agg #[.int .i64 x.key, .int .i64 x.val])).run Try.prog W = .ok true W := fun W => by rw [eq_arr2]; simp
      go_upto_region 6 with fail
      go_quiet (fail)
      go_wp2_with fail
      go_roundw
      case rel => exact ⟨i + 1, by omega, rfl, below_drewN HD.out _⟩
      case measure => simp only [RowKit.intOf]; omega
    · obtain rfl : i = l.length := by omega
      have hlt1 : ¬ (l.length : Int) < l.length := by omega
      have HD := Lib.hid hb1
      clear hb1
      go_wp2_with fail
      go_ret
      exact ⟨rfl, HD.out⟩
end Go.Proofs.Ytajklhlgakpgiaa
