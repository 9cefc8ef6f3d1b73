/-
  The reference of the layer plain (amblerref26): find, Get by contracts.
-/
import Derived.Test.YtfnnfgiflhpefaaDoorReg
import Derived.Laws.OwnMore
namespace Go.Proofs.YtfnnfgiflhpefaaDoor
open Go.RowKit Go.Lib

def keysR (l : List Pr2) : List Int := l.map Pr2.key
def valsR (l : List Pr2) : List Int := l.map Pr2.val
/-- A reference in a world, within a set of blocks that are its own. -/
structure RF (w : World) (T : Nat → Prop) (r : Nat) (most : Int) (l : List Pr2) : Prop where
  ex : ∃ vk vv, Blk w r 42 #[.int .i64 most, vk, vv] ∧ w.ownsRow 0 33 1 vk l.length (ints (keysR l)) ∧ w.ownsRow 0 33 1 vv l.length (ints (valsR l)) ∧
    (∀ k, vk.ownBlock = some k → T k ∧ k ≠ r) ∧ ∀ k, vv.ownBlock = some k → T k ∧ k ≠ r
  own : T r
  lt : ∀ k, T k → k < w.heap.size
  small : l.length ≤ 1000
theorem RF.chg {T S' : Nat → Prop} {w w' : World} {r : Nat} {most : Int} {l : List Pr2} (H : RF w T r most l) (h : Chg S' w w') (hn : ∀ k, T k → ¬ S' k) : RF w' T r most l := by
  obtain ⟨vk, vv, h1, h2, h3, h4, h5⟩ := H.ex
  exact ⟨⟨vk, vv, h.blk h1 (hn r H.own), owns_chg h h2 (fun k hk => hn k (h4 k hk).1), owns_chg h h3 (fun k hk => hn k (h5 k hk).1), h4, h5⟩, H.own, fun k hk => Nat.lt_of_lt_of_le (H.lt k hk) h.size, H.small⟩
theorem RF.below {T : Nat → Prop} {w w' : World} {r : Nat} {most : Int} {l : List Pr2} (H : RF w T r most l) (h : Below w.heap.size w w') : RF w' T r most l :=
  H.chg (S' := fun _ => False) (Chg.of h) fun _ _ h => h

/-- The first place of a key. -/
def FirstAt (l : List Pr2) (key : Int) (i : Nat) : Prop := ∃ h : i < l.length, l[i].key = key ∧ ∀ j (hj : j < i), (l[j]'(by omega)).key ≠ key
theorem first_of {l : List Pr2} {key v : Int} (h : look l key = some v) : ∃ i, ∃ hi : i < l.length, FirstAt l key i ∧ l[i].val = v := by
  induction l with
  | nil => cases h
  | cons x l ih =>
    simp only [look] at h
    split at h
    · rename_i hx
      injection h with h
      exact ⟨0, by simp, ⟨by simp, hx, fun j hj => absurd hj (by omega)⟩, h⟩
    · rename_i hx
      obtain ⟨i, hi, ⟨_, h1, h2⟩, h3⟩ := ih h
      refine ⟨i + 1, by simp; omega, ⟨by simp; omega, by simpa using h1, fun j hj => ?_⟩, by simpa using h3⟩
      cases j with
      | zero => exact hx
      | succ j => simpa using h2 j (by omega)
theorem none_all {l : List Pr2} {key : Int} (h : look l key = none) : ∀ x ∈ l, x.key ≠ key := by
  induction l with
  | nil => intro x hx; cases hx
  | cons y l ih =>
    simp only [look] at h
    split at h
    · cases h
    · rename_i hy
      intro x hx
      rcases List.mem_cons.1 hx with rfl | hx
      · exact hy
      · exact ih h x hx

set_option maxRecDepth 100000 in
theorem findr_hit (T : Nat → Prop) (r : Nat) (most : Int) (l : List Pr2) (key : Int) (k : Nat) (w : World) (H : RF w T r most l) (hk : FirstAt l key k) :
    Calls Tryd.prog 33 #[.pointer (some ⟨r, 0, none⟩), .int .u64 key] w fun e w' => e = .returned (.int .i64 k) ∧ w = w' := by
  obtain ⟨vk, vv, h1, h2, h3, h4, h5⟩ := H.ex
  have hsm := H.small
  obtain ⟨p, c, rfl, hl, hc, _, hR⟩ := u64_row h2
  have c1 := h1.cell 1
  have f1 := h1.free 1
  have HR := Lib.hid (And.intro hR (And.intro hk hsm))
  obtain ⟨hkl, _, _⟩ := hk
  clear h2 h3 h4 h5 hR H h1
  go_enter Tryd.func33, Tryd.ntmps33
  go_wp2_with fail
  go_loop [12] (fun s12 => ∃ i : Nat, i ≤ k ∧ s12 = .int .i64 i) (fun s12 => l.length - (RowKit.intOf s12).toNat)
  case atStart => exact ⟨0, Nat.zero_le _, rfl⟩
  case round =>
    obtain ⟨i, hi, rfl⟩ := hrel
    obtain ⟨a, rfl, hcell⟩ := HR.out.1 i (by simp [keysR]; omega)
    rw [Nat.mul_one] at hcell
    have hlt1 : (i : Int) < l.length := by omega
    have hw : IntKind.i64.wrap ((i : Int) + 1) = (i : Int) + 1 := by have := HR.out.2.2; rw [IntKind.wrap_i64]; omega
    by_cases hik : i = k
    · subst hik
      have e : (keysR l)[i]'(by simp [keysR]; omega) = key := by
        obtain ⟨_, e, _⟩ := HR.out.2.1
        simpa [keysR] using e
      rw [e] at hcell
      go_wp2_with fail
      go_ret
      exact ⟨rfl, rfl⟩
    · have e : (keysR l)[i]'(by simp [keysR]; omega) ≠ key := by
        obtain ⟨_, _, e⟩ := HR.out.2.1
        simpa [keysR] using e i (by omega)
      generalize (keysR l)[i]'(by simp [keysR]; omega) = x at hcell e
      have e1 : (x == key) = false := beq_eq_false_iff_ne.2 e
      go_wp2_with fail
      go_round
      case rel => exact ⟨i + 1, by omega, rfl⟩
      case measure => simp only [RowKit.intOf]; omega
set_option maxRecDepth 100000 in
theorem findr_none (T : Nat → Prop) (r : Nat) (most : Int) (l : List Pr2) (key : Int) (w : World) (H : RF w T r most l) (hk : look l key = none) :
    Calls Tryd.prog 33 #[.pointer (some ⟨r, 0, none⟩), .int .u64 key] w fun e w' => e = .returned (.int .i64 (-1)) ∧ w = w' := by
  obtain ⟨vk, vv, h1, h2, h3, h4, h5⟩ := H.ex
  have hsm := H.small
  obtain ⟨p, c, rfl, hl, hc, _, hR⟩ := u64_row h2
  have c1 := h1.cell 1
  have f1 := h1.free 1
  have HR := Lib.hid (And.intro hR (And.intro (none_all hk) hsm))
  clear h2 h3 h4 h5 hR H h1 hk
  go_enter Tryd.func33, Tryd.ntmps33
  go_wp2_with fail
  go_loop [12] (fun s12 => ∃ i : Nat, i ≤ l.length ∧ s12 = .int .i64 i) (fun s12 => l.length - (RowKit.intOf s12).toNat)
  case atStart => exact ⟨0, Nat.zero_le _, rfl⟩
  case round =>
    obtain ⟨i, hi, rfl⟩ := hrel
    by_cases hik : i < l.length
    · obtain ⟨a, rfl, hcell⟩ := HR.out.1 i (by simp [keysR]; omega)
      rw [Nat.mul_one] at hcell
      have hlt1 : (i : Int) < l.length := by omega
      have hw : IntKind.i64.wrap ((i : Int) + 1) = (i : Int) + 1 := by have := HR.out.2.2; rw [IntKind.wrap_i64]; omega
      have e : (keysR l)[i]'(by simp [keysR]; omega) ≠ key := by
        have := HR.out.2.1 l[i] (List.getElem_mem hik)
        simpa [keysR] using this
      generalize (keysR l)[i]'(by simp [keysR]; omega) = x at hcell e
      have e1 : (x == key) = false := beq_eq_false_iff_ne.2 e
      go_wp2_with fail
      go_round
      case rel => exact ⟨i + 1, by omega, rfl⟩
      case measure => simp only [RowKit.intOf]; omega
    · obtain rfl : i = l.length := by omega
      have hlt1 : ¬ (l.length : Int) < l.length := by omega
      go_wp2_with fail
      go_ret
      exact ⟨rfl, rfl⟩

theorem getr_c (T : Nat → Prop) (r : Nat) (most : Int) (l : List Pr2) (key : Int) (w : World) (H : RF w T r most l) :
    Calls Tryd.prog 23 #[.pointer (some ⟨r, 0, none⟩), .int .u64 key] w fun e w' => e = .returned (.tuple #[.int .u64 ((look l key).getD 0), .bool (look l key).isSome]) ∧ w = w' := by
  obtain ⟨vk, vv, h1, h2, h3, h4, h5⟩ := H.ex
  have hsm := H.small
  obtain ⟨p, c, rfl, hl, hc, _, hR⟩ := u64_row h3
  have c2 := h1.cell 2
  have f2 := h1.free 2
  cases hq : look l key with
  | none =>
    have HF := Lib.hid (findr_none T r most l key w H hq)
    clear h1 h2 h3 h4 h5 hR H hq
    go_enter Tryd.func23, Tryd.ntmps23
    go_wp2_with fail
    refine HF.out.mono ?_
    rintro e w' ⟨rfl, rfl⟩
    go_wp2_with fail
    go_ret2
    exact ⟨rfl, rfl⟩
  | some v =>
    obtain ⟨i, hi, hfi, hv⟩ := first_of hq
    have HF := Lib.hid (findr_hit T r most l key i w H hfi)
    obtain ⟨a, rfl, hcell⟩ := hR i (by simp [valsR]; omega)
    rw [Nat.mul_one] at hcell
    have e : (valsR l)[i]'(by simp [valsR]; omega) = v := by simpa [valsR] using hv
    rw [e] at hcell
    have hlt : (i : Int) < l.length := by omega
    clear h1 h2 h3 h4 h5 hR H hq hfi hv e
    go_enter Tryd.func23, Tryd.ntmps23
    go_wp2_with fail
    refine HF.out.mono ?_
    rintro e w' ⟨rfl, rfl⟩
    go_wp2_with fail
    go_ret2
    exact ⟨rfl, rfl⟩

/-- What an append is handed: nil, or a row that lies in the world. -/
def ArgAt (w : World) (z : Nat) (u : Value) (m : Nat) (news : List Value) : Prop :=
  (u = .slice none 0 0 ∧ m = 0 ∧ news = []) ∨ ∃ a c, u = .slice (some a) m c ∧ news.length = m * z ∧ ∀ j v, news[j]? = some v → w.cell? (a.add j) = some v
theorem ArgAt.of_row {w : World} {B z n : Nat} {e : TypeId} {v : Value} {xs : List Value} (h : w.ownsRow B e z v n xs) : ArgAt w z v n xs := by
  have hl := h.1
  rcases h.2 with ⟨rfl, rfl⟩ | ⟨g, cap, cur, rfl, hb, hg, hc, _, hs, ht⟩
  · exact .inl ⟨rfl, rfl, List.length_eq_zero_iff.1 (by simpa using hl)⟩
  · refine .inr ⟨⟨g, 0, none⟩, cap, rfl, hl, fun j u hj => ?_⟩
    rw [Addr.add_lit, Nat.zero_add, cell_of_row w g _ cur _ _ hg, ← Array.getElem?_toList]
    rw [← ht, List.getElem?_take] at hj
    split at hj
    · exact hj
    · cases hj
theorem ArgAt.below {w w' : World} {z m : Nat} {u : Value} {news : List Value} (h : ArgAt w z u m news) (hb : Below w.heap.size w w') : ArgAt w' z u m news := by
  rcases h with h | ⟨a, c, rfl, h1, h2⟩
  · exact .inl h
  · exact .inr ⟨a, c, rfl, h1, fun j v hj => (hb.cell (block_lt_of_cell (h2 j v hj))).trans (h2 j v hj)⟩
theorem app_arg {w : World} (base : Nat) (t ty e : TypeId) (i : TypeInfo) (zv : Value) (z bytes : Nat) (ht : Tryd.prog.underlying t = some (.slice e)) (hi : Tryd.prog.info? e = some i) (hz : i.zero = some zv)
    (hsize : i.size = z) (hby : i.bytes = bytes) (hzs : zv.cells.size = z) (hsz : 0 < z) (hb16 : bytes ≤ 16)
    (v : Value) (n : Nat) (xs : List Value) (hown : w.ownsRow base e z v n xs) (u : Value) (m : Nat) (news : List Value) (hu : ArgAt w z u m news) (h1 : ∀ u ∈ news, u.oneCell' = true) (hn : n + m ≤ 3000) (hbase : base ≤ w.heap.size) :
    ∃ v' w', (Builtin.append_ #[t, t] ty #[v, u]).run Tryd.prog w = .ok v' w' ∧ w'.ownsRow base e z v' (n + m) (xs ++ news) ∧ w.grownBy w' v.ownBlock ∧ (v'.ownBlock = v.ownBlock ∨ v'.ownBlock = some w.heap.size) := by
  rcases hu with ⟨rfl, rfl, rfl⟩ | ⟨a, c, rfl, h2, h3⟩
  · refine ⟨v, w, run_append_owned_none w base t ty e i z ht hi v n xs hown, by simpa using hown, ⟨rfl, rfl, rfl, Nat.le_refl _, fun _ _ _ => rfl⟩, .inl rfl⟩
  · obtain ⟨v', w', g1, g2, g3, _, g5⟩ := run_append_own_at (P := Tryd.prog) w base t ty e i zv z bytes ht hi hz hsize hby hzs hsz v n xs hown a m c news h2 h3 h1 (by unfold maxLen; omega) (by have : (n + m) * bytes ≤ 3000 * 16 := Nat.mul_le_mul hn hb16; omega) hbase
    exact ⟨v', w', g1, g2, g3, g5⟩
theorem ints_one (l : List Int) : ∀ u ∈ ints l, u.oneCell' = true := fun u hu => by
  obtain ⟨x, _, rfl⟩ := List.mem_map.1 hu
  rfl
theorem ints_app (l m : List Int) : ints (l ++ m) = ints l ++ ints m := List.map_append
theorem app_u64 {w : World} (base : Nat) (ty : TypeId) (v : Value) (n : Nat) (xs : List Int) (hown : w.ownsRow base 33 1 v n (ints xs)) (u : Value) (m : Nat) (ys : List Int) (hu : ArgAt w 1 u m (ints ys)) (hn : n + m ≤ 3000) (hbase : base ≤ w.heap.size) :
    ∃ v' w', (Builtin.append_ #[40, 40] ty #[v, u]).run Tryd.prog w = .ok v' w' ∧ w'.ownsRow base 33 1 v' (n + m) (ints (xs ++ ys)) ∧ w.grownBy w' v.ownBlock ∧ (v'.ownBlock = v.ownBlock ∨ v'.ownBlock = some w.heap.size) := by
  obtain ⟨i, hi, hz, hs, hb⟩ := info_u64
  rw [ints_app]
  exact app_arg base _ ty _ i _ 1 8 Tryd.underlying40 hi hz hs hb rfl (by omega) (by omega) v n _ hown u m _ hu (ints_one _) hn hbase
theorem info_arr2 : ∃ i, Tryd.prog.info? 39 = some i ∧ i.zero = some (.agg #[.int .u64 0, .int .u64 0]) ∧ i.size = 2 ∧ i.bytes = 16 := by
  have h : (Tryd.prog.info? 39).map (fun i => (i.zero, i.size, i.bytes)) = some (some (.agg #[.int .u64 0, .int .u64 0]), 2, 16) := by kernel_rfl
  obtain ⟨i, hi, h2⟩ := Option.map_eq_some_iff.1 h
  injection h2 with h3 h4
  injection h4 with h5 h6
  exact ⟨i, hi, h3, h5, h6⟩
theorem app_arr2 {w : World} (base : Nat) (ty : TypeId) (v : Value) (n : Nat) (xs : List Pr2) (hown : w.ownsRow base 39 2 v n (flat2 xs)) (u : Value) (m : Nat) (ys : List Pr2) (hu : ArgAt w 2 u m (flat2 ys)) (hn : n + m ≤ 3000) (hbase : base ≤ w.heap.size) :
    ∃ v' w', (Builtin.append_ #[31, 31] ty #[v, u]).run Tryd.prog w = .ok v' w' ∧ w'.ownsRow base 39 2 v' (n + m) (flat2 (xs ++ ys)) ∧ w.grownBy w' v.ownBlock ∧ (v'.ownBlock = v.ownBlock ∨ v'.ownBlock = some w.heap.size) := by
  obtain ⟨i, hi, hz, hs, hb⟩ := info_arr2
  rw [flat2_app]
  exact app_arg base _ ty _ i _ 2 16 Tryd.underlying31 hi hz hs hb rfl (by omega) (by omega) v n _ hown u m _ hu (flat2_one _) hn hbase
end Go.Proofs.YtfnnfgiflhpefaaDoor
