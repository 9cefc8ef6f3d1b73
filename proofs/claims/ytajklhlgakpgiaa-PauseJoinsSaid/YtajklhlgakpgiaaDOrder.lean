/-
  Three records beside each other; what the counts of numbers say of a record's rows.
-/
import Derived.Test.YtajklhlgakpgiaaDAlive
namespace Go.Proofs.Ytajklhlgakpgiaa
open Go.RowKit Go.Lib

structure CN (xs : List Int) (l : List Pr2) : Prop where
  sort : SortP l
  kb : KB l
  sum : sumV l = xs.length
  len : l.length ≤ xs.length
  look_ : ∀ q, look l q = if (xs.map clampP).count q = 0 then none else some (((xs.map clampP).count q : Nat) : Int)
theorem CN.nil : CN [] [] := ⟨List.Pairwise.nil, fun x hx => (by cases hx), rfl, Nat.le_refl _, fun q => rfl⟩
theorem CN.note {xs : List Int} {l : List Pr2} (H : CN xs l) (n : Int) : CN (xs ++ [n]) (addL (clampP n) 1 l) := by
  refine ⟨addL_sort H.sort, H.kb.ins (clampP_in n), ?_, ?_, fun q => ?_⟩
  · rw [sumV_add H.sort, H.sum]; simp
  · have := addL_len (n := clampP n) (k := 1) H.sort; have := H.len; simp; omega
  · rw [addL_look H.sort, H.look_, H.look_, List.map_append, List.count_append]
    by_cases hq : q = clampP n
    · rw [if_pos hq, hq]
      simp only [List.map_cons, List.map_nil, List.count_cons_self, List.count_nil]
      generalize (xs.map clampP).count (clampP n) = C
      by_cases hz : C = 0
      · subst hz; rfl
      · rw [if_neg hz]; simp
    · rw [if_neg hq]
      have : ([n].map clampP).count q = 0 := List.count_eq_zero.2 fun h => hq (List.mem_singleton.1 h)
      rw [this, Nat.add_zero]
theorem KB.join {m : List Pr2} (hm : KB m) : ∀ {l : List Pr2}, KB l → KB (joinL l m) := by
  induction m with
  | nil => intro l h; exact h
  | cons x m ih =>
    intro l h
    exact ih (fun y hy => hm y (List.mem_cons_of_mem _ hy)) (h.ins (hm x (List.mem_cons_self ..)))
theorem CN.join {ys zs : List Int} {l m : List Pr2} (H : CN ys l) (K : CN zs m) : CN (ys ++ zs) (joinL l m) := by
  refine ⟨joinL_sort H.sort, K.kb.join H.kb, ?_, ?_, fun q => ?_⟩
  · rw [joinL_sum H.sort, H.sum, K.sum]; simp
  · have := joinL_len (k := m) H.sort; have := H.len; have := K.len; simp; omega
  · rw [joinL_look K.sort H.sort, K.look_, H.look_, List.map_append, List.count_append]
    generalize (zs.map clampP).count q = Z
    generalize (ys.map clampP).count q = Y
    by_cases hk : Z = 0
    · subst hk; rw [if_pos rfl, Nat.add_zero]
    · rw [if_neg hk]
      by_cases hy : Y = 0
      · subst hy
        simp [hk]
      · simp [hk, hy]
theorem CN.meet {xs ys : List Int} {l m : List Pr2} (H : CN xs l) (K : CN ys m) (h : ∀ q, (xs.map clampP).count q = (ys.map clampP).count q) : l = m :=
  sort_ext H.sort K.sort fun q => by rw [H.look_, K.look_, h]

structure Three (B : Nat) (w0 w : World) (a b c : Nat) (la lb lc : List Pr2) (na nb nc : Int) : Prop where
  ex : ∃ S T U : Nat → Prop, PR w S a la na ∧ PR w T b lb nb ∧ PR w U c lc nc ∧ (∀ i, S i → ¬ T i) ∧ (∀ i, T i → ¬ U i) ∧ (∀ i, U i → ¬ S i) ∧ (∀ i, S i → B ≤ i) ∧ (∀ i, T i → B ≤ i) ∧ ∀ i, U i → B ≤ i
  bel : Below B w0 w
section
variable {B a b c : Nat} {w0 w w' : World} {la lb lc : List Pr2} {na nb nc : Int}
theorem Three.rot (H : Three B w0 w a b c la lb lc na nb nc) : Three B w0 w b c a lb lc la nb nc na := by
  obtain ⟨S, T, U, h1, h2, h3, h4, h5, h6, h7, h8, h9⟩ := H.ex
  exact ⟨⟨T, U, S, h2, h3, h1, h5, h6, h4, h8, h9, h7⟩, H.bel⟩
theorem Three.below (H : Three B w0 w a b c la lb lc na nb nc) (hB : B = w0.heap.size) (hb : Below w.heap.size w w') : Three B w0 w' a b c la lb lc na nb nc := by
  obtain ⟨S, T, U, h1, h2, h3, h4⟩ := H.ex
  exact ⟨⟨S, T, U, h1.below hb, h2.below hb, h3.below hb, h4⟩, H.bel.trans (hb.mono (by have := H.bel.size; omega))⟩
theorem Three.note (n : Int) (H : Three B w0 w a b c la lb lc na nb nc) (hB : B = w0.heap.size) (hm : na < 1000000) (hl : la.length < 900) :
    Calls Try.prog 26 #[.pointer (some ⟨a, 0, none⟩), .int .i64 n] w fun e w' => e = .returned (.tuple #[]) ∧ Three B w0 w' a b c (addL (clampP n) 1 la) lb lc (na + 1) nb nc := by
  obtain ⟨S, T, U, h1, h2, h3, h4, h5, h6, h7, h8, h9⟩ := H.ex
  have hs := H.bel.size
  refine (note_c S a la n na w h1 hm hl).mono ?_
  rintro e w' ⟨rfl, S', p, ch, nw⟩
  refine ⟨rfl, ⟨S', T, U, p, h2.chg ch (fun i hi hsi => h4 i hsi hi), h3.chg ch (fun i hi hsi => h6 i hi hsi), fun i hi ht => ?_, h5, fun i hu hi => ?_, fun i hi => ?_, h8, h9⟩, H.bel.trans (ch.below h7 (by omega))⟩
  · rcases nw i hi with x | x
    · exact h4 i x ht
    · have := h2.lt i ht; omega
  · rcases nw i hi with x | x
    · exact h6 i hu x
    · have := h3.lt i hu; omega
  · rcases nw i hi with x | x
    · exact h7 i x
    · omega
theorem Three.join (H : Three B w0 w a b c la lb lc na nb nc) (hB : B = w0.heap.size) (hm : na + sumV lb ≤ 1000000) (hl : la.length + lb.length < 900) :
    Calls Try.prog 27 #[.pointer (some ⟨a, 0, none⟩), .pointer (some ⟨b, 0, none⟩)] w fun e w' => e = .returned (.tuple #[]) ∧ Three B w0 w' a b c (joinL la lb) lb lc (na + sumV lb) nb nc := by
  obtain ⟨S, T, U, h1, h2, h3, h4, h5, h6, h7, h8, h9⟩ := H.ex
  have hs := H.bel.size
  refine (join_c S T a b la lb na nb w h1 h2 hm hl).mono ?_
  rintro e w' ⟨rfl, S', p, ch, nw⟩
  refine ⟨rfl, ⟨S', T, U, p, h2.chg ch (fun i hi hsi => h4 i hsi hi), h3.chg ch (fun i hi hsi => h6 i hi hsi), fun i hi ht => ?_, h5, fun i hu hi => ?_, fun i hi => ?_, h8, h9⟩, H.bel.trans (ch.below h7 (by omega))⟩
  · rcases nw i hi with x | x
    · exact h4 i x ht
    · have := h2.lt i ht; omega
  · rcases nw i hi with x | x
    · exact h6 i hu x
    · have := h3.lt i hu; omega
  · rcases nw i hi with x | x
    · exact h7 i x
    · omega
end
/-- A row of numbers in a world. -/
def NumsAt (w : World) (p : Option Addr) (xs : List Int) : Prop := ∀ i (h : i < xs.length), ∃ a, p = some a ∧ w.cell? (a.add i) = some (.int .i64 xs[i])

theorem sumFrom_in {l : List Pr2} (hK : KB l) (hv : ∀ x ∈ l, 0 ≤ x.val) : ∀ s, 0 ≤ s → s ≤ 1099511627776 → 0 ≤ sumFrom s l ∧ sumFrom s l ≤ 1099511627776 := by
  induction l with
  | nil => intro s h1 h2; exact ⟨h1, h2⟩
  | cons x l ih =>
    intro s h1 h2
    have hk := hK x (List.mem_cons_self ..)
    have hx := hv x (List.mem_cons_self ..)
    simp only [sumFrom]
    split
    · omega
    · rename_i hn
      have hp : 0 ≤ x.key * x.val := Int.mul_nonneg hk.1 hx
      refine ih (fun y hy => hK y (List.mem_cons_of_mem _ hy)) (fun y hy => hv y (List.mem_cons_of_mem _ hy)) _ (by omega) ?_
      by_cases hpos : 0 < x.key
      · have hle : x.val ≤ (1099511627776 - s) / x.key := Int.not_lt.1 fun h => hn ⟨hpos, h⟩
        have h3 : x.key * ((1099511627776 - s) / x.key) ≤ 1099511627776 - s := Int.mul_ediv_self_le (by omega)
        have h4 : x.key * x.val ≤ x.key * ((1099511627776 - s) / x.key) := Int.mul_le_mul_of_nonneg_left hle (by omega)
        omega
      · have : x.key = 0 := by omega
        rw [this, Int.zero_mul]
        omega
/-- Where the walk of PauseOrder stands. -/
def OSt (w : World) (A k : Nat) (xs : List Int) (i : Nat) (wr : World) : Prop :=
  ∃ la lb lc, Three w.heap.size w wr A (A + 1) (A + 1 + 1) la lb lc (i : Int) ((min i k : Nat) : Int) ((i - k : Nat) : Int) ∧ CN (xs.reverse.take i) la ∧ CN (xs.take (min i k)) lb ∧ CN ((xs.take i).drop k) lc
/-- The first record is noted. -/
def OMid (w : World) (A k : Nat) (xs : List Int) (i : Nat) (wr : World) : Prop :=
  ∃ la lb lc, Three w.heap.size w wr A (A + 1) (A + 1 + 1) la lb lc ((i + 1 : Nat) : Int) ((min i k : Nat) : Int) ((i - k : Nat) : Int) ∧ CN (xs.reverse.take (i + 1)) la ∧ CN (xs.take (min i k)) lb ∧ CN ((xs.take i).drop k) lc
theorem OSt.bel {w wr : World} {A k i : Nat} {xs : List Int} (H : OSt w A k xs i wr) : Below w.heap.size w wr := by
  obtain ⟨_, _, _, h, _⟩ := H
  exact h.bel
theorem OMid.bel {w wr : World} {A k i : Nat} {xs : List Int} (H : OMid w A k xs i wr) : Below w.heap.size w wr := by
  obtain ⟨_, _, _, h, _⟩ := H
  exact h.bel
theorem OSt.noteA {w wr : World} {A k i j : Nat} {xs : List Int} {x : Int} (H : OSt w A k xs i wr) (hi : i < xs.length) (hn : xs.length ≤ 100) (hj : j = xs.length - 1 - i) (hx : xs[j]? = some x) :
    Calls Try.prog 26 #[.pointer (some ⟨A, 0, none⟩), .int .i64 x] wr fun e w' => e = .returned (.tuple #[]) ∧ OMid w A k xs i w' := by
  obtain ⟨la, lb, lc, h, c1, c2, c3⟩ := H
  have hl := c1.len
  rw [List.length_take] at hl
  refine (h.note x rfl (by omega) (by omega)).mono ?_
  rintro e w' ⟨rfl, h'⟩
  refine ⟨rfl, _, lb, lc, by rw [show ((i + 1 : Nat) : Int) = (i : Int) + 1 by omega]; exact h', ?_, c2, c3⟩
  rw [List.take_add_one, List.getElem?_reverse hi, ← hj, hx]
  exact c1.note x
theorem OMid.noteB {w wr : World} {A k i : Nat} {xs : List Int} {x : Int} (H : OMid w A k xs i wr) (hn : xs.length ≤ 100) (hik : i < k) (hx : xs[i]? = some x) :
    Calls Try.prog 26 #[.pointer (some ⟨A + 1, 0, none⟩), .int .i64 x] wr fun e w' => e = .returned (.tuple #[]) ∧ OSt w A k xs (i + 1) w' := by
  obtain ⟨la, lb, lc, h, c1, c2, c3⟩ := H
  have hi : i < xs.length := (List.getElem?_eq_some_iff.1 hx).1
  have hl := c2.len
  rw [List.length_take] at hl
  refine (h.rot.note x rfl (by omega) (by omega)).mono ?_
  rintro e w' ⟨rfl, h'⟩
  refine ⟨rfl, la, addL (clampP x) 1 lb, lc, ?_, c1, ?_, ?_⟩
  · have := h'.rot.rot
    rw [show ((min (i + 1) k : Nat) : Int) = ((min i k : Nat) : Int) + 1 by omega, show i + 1 - k = i - k by omega]
    exact this
  · rw [show min (i + 1) k = i + 1 by omega, List.take_add_one, hx]
    rw [show min i k = i by omega] at c2
    exact c2.note x
  · have e1 : (xs.take i).drop k = [] := List.drop_eq_nil_of_le (by rw [List.length_take]; omega)
    have e2 : (xs.take (i + 1)).drop k = [] := List.drop_eq_nil_of_le (by rw [List.length_take]; omega)
    rw [e2]
    rw [e1] at c3
    exact c3
theorem OMid.noteC {w wr : World} {A k i : Nat} {xs : List Int} {x : Int} (H : OMid w A k xs i wr) (hn : xs.length ≤ 100) (hik : ¬ i < k) (hx : xs[i]? = some x) :
    Calls Try.prog 26 #[.pointer (some ⟨A + 1 + 1, 0, none⟩), .int .i64 x] wr fun e w' => e = .returned (.tuple #[]) ∧ OSt w A k xs (i + 1) w' := by
  obtain ⟨la, lb, lc, h, c1, c2, c3⟩ := H
  have hi : i < xs.length := (List.getElem?_eq_some_iff.1 hx).1
  have hl := c3.len
  rw [List.length_drop, List.length_take] at hl
  refine (h.rot.rot.note x rfl (by omega) (by omega)).mono ?_
  rintro e w' ⟨rfl, h'⟩
  refine ⟨rfl, la, lb, addL (clampP x) 1 lc, ?_, c1, ?_, ?_⟩
  · have := h'.rot
    rw [show ((i + 1 - k : Nat) : Int) = ((i - k : Nat) : Int) + 1 by omega, show min (i + 1) k = min i k by omega]
    exact this
  · rw [show min (i + 1) k = min i k by omega]; exact c2
  · rw [List.take_add_one, hx]
    show CN ((xs.take i ++ [x]).drop k) _
    rw [List.drop_append_of_le_length (by rw [List.length_take]; omega)]
    exact c3.note x
/-- Two records that hold the same, which are only read. -/
structure Duo (w0 w : World) (a b : Nat) (l : List Pr2) (n : Nat) : Prop where
  ex : ∃ S T : Nat → Prop, PR w S a l (n : Int) ∧ PR w T b l (n : Int)
  bel : Below w0.heap.size w0 w
theorem Duo.below {w0 w w' : World} {a b n : Nat} {l : List Pr2} (H : Duo w0 w a b l n) (hb : Below w.heap.size w w') : Duo w0 w' a b l n := by
  obtain ⟨S, T, h1, h2⟩ := H.ex
  exact ⟨⟨S, T, h1.below hb, h2.below hb⟩, H.bel.trans (hb.mono H.bel.size)⟩
theorem OSt.join {w wr : World} {A k : Nat} {xs : List Int} (H : OSt w A k xs xs.length wr) (hn : xs.length ≤ 100) (hk : k ≤ xs.length) :
    Calls Try.prog 27 #[.pointer (some ⟨A + 1, 0, none⟩), .pointer (some ⟨A + 1 + 1, 0, none⟩)] wr fun e w' => e = .returned (.tuple #[]) ∧ ∃ l, Duo w w' A (A + 1) l xs.length ∧ KB l ∧ l.length ≤ xs.length := by
  obtain ⟨la, lb, lc, h, c1, c2, c3⟩ := H
  have hb := c2.len
  have hc := c3.len
  have hs := c3.sum
  rw [List.length_take] at hb
  rw [List.length_drop, List.length_take] at hc hs
  rw [List.take_of_length_le (by simp)] at c1
  rw [show min xs.length k = k by omega] at c2
  rw [List.take_of_length_le (Nat.le_refl _)] at c3
  refine (h.rot.join rfl (by omega) (by omega)).mono ?_
  rintro e w' ⟨rfl, h'⟩
  have c4 := c2.join c3
  rw [List.take_append_drop] at c4
  have hm : la = joinL lb lc := c1.meet c4 fun q => by rw [List.map_reverse, List.count_reverse]
  obtain ⟨S, T, U, g1, g2, g3, _⟩ := h'.rot.rot.ex
  refine ⟨rfl, la, ⟨⟨S, T, g1, ?_⟩, h'.bel⟩, c1.kb, by have := c1.len; simpa using this⟩
  rw [hm]
  have : ((min xs.length k : Nat) : Int) + sumV lc = (xs.length : Int) := by omega
  rw [← this]
  exact g2

set_option maxHeartbeats 4000000 in
set_option maxRecDepth 100000 in
theorem order_c (p : Option Addr) (n c : Nat) (xs : List Int) (cut : Int) (q : Nat) (w : World) (hq : q < 2 ^ 64) (hn : xs.length = n) (hX : NumsAt w p xs) :
    Calls Try.prog 5 #[.slice p n c, .int .i64 cut, .float .f64 q] w fun e w' => e = .returned (.bool true) ∧ Below w.heap.size w w' := by
  have HE := Lib.hid (And.intro hn hX)
  clear hn hX
  by_cases hbig : n ≤ 100
  case neg =>
    have hbig1 : (100 : Int) < n := by omega
    go_enter Try.func5, Try.ntmps5
    go_wp2_with fail
    refine (alive_c w).mono ?_
    rintro e w1 ⟨rfl, b1⟩
    go_wp2_with fail
    go_ret
    exact ⟨rfl, b1⟩
  have hbig1 : ¬ (100 : Int) < n := by omega
  go_enter Try.func5, Try.ntmps5
  go_wp2_with fail
  refine (alive_c w).mono ?_
  rintro e w1 ⟨rfl, b1⟩
  have HB1 := Lib.hid b1
  clear b1
  go_wp2_with fail
  have hcutk : ∃ k : Nat, k ≤ n ∧ wrap64 ((IntKind.u64.wrap cut).tmod ((n : Int) + 1)) = (k : Int) := by
    have h0 : 0 ≤ IntKind.u64.wrap cut := by rw [IntKind.wrap_u64]; omega
    have h1 : (IntKind.u64.wrap cut).tmod ((n : Int) + 1) = IntKind.u64.wrap cut % ((n : Int) + 1) := Int.tmod_eq_emod_of_nonneg h0
    have h2 := Int.emod_nonneg (IntKind.u64.wrap cut) (by omega : (n : Int) + 1 ≠ 0)
    have h3 := Int.emod_lt_of_pos (IntKind.u64.wrap cut) (by omega : 0 < (n : Int) + 1)
    refine ⟨(IntKind.u64.wrap cut % ((n : Int) + 1)).toNat, by omega, ?_⟩
    rw [h1]
    unfold wrap64
    omega
  obtain ⟨k, hkn, hk⟩ := hcutk
  rw [hk]
  clear hk
  have hT : OSt w w1.heap.size k xs 0 (((w1.alloc (.cells #[.slice none 0 0, .int .i64 0] 48)).alloc (.cells #[.slice none 0 0, .int .i64 0] 48)).alloc (.cells #[.slice none 0 0, .int .i64 0] 48)) := by
    have hb := HB1.out
    have hs := hb.size
    have pr : ∀ (W : World) (r : Nat), Blk W r 48 #[.slice none 0 0, .int .i64 0] → PR W (fun i => i = r) r [] 0 := fun W r h => ⟨⟨_, h, World.ownsRow_nil _ _ _ _, fun k hk => (by cases hk)⟩, rfl, fun k hk => by subst hk; exact h.lt, List.Pairwise.nil, Nat.zero_le _, fun x hx => (by cases hx), by decide⟩
    have b1 := Blk.new w1 48 #[.slice none 0 0, .int .i64 0]
    have b2 := Blk.new (w1.alloc (.cells #[.slice none 0 0, .int .i64 0] 48)) 48 #[.slice none 0 0, .int .i64 0]
    have b3 := Blk.new ((w1.alloc (.cells #[.slice none 0 0, .int .i64 0] 48)).alloc (.cells #[.slice none 0 0, .int .i64 0] 48)) 48 #[.slice none 0 0, .int .i64 0]
    have e1 : (w1.alloc (.cells #[.slice none 0 0, .int .i64 0] 48)).heap.size = w1.heap.size + 1 := by simp
    have e2 : ((w1.alloc (.cells #[.slice none 0 0, .int .i64 0] 48)).alloc (.cells #[.slice none 0 0, .int .i64 0] 48)).heap.size = w1.heap.size + 1 + 1 := by simp
    rw [e1] at b2
    rw [e2] at b3
    have hB3 : Below w1.heap.size w1 (((w1.alloc (.cells #[.slice none 0 0, .int .i64 0] 48)).alloc (.cells #[.slice none 0 0, .int .i64 0] 48)).alloc (.cells #[.slice none 0 0, .int .i64 0] 48)) := (((Below.refl _ _).alloc (Nat.le_refl _) _).alloc (by omega) _).alloc (by omega) _
    refine ⟨[], [], [], ⟨⟨fun i => i = w1.heap.size, fun i => i = w1.heap.size + 1, fun i => i = w1.heap.size + 1 + 1, pr _ _ ((b1.alloc _).alloc _), ?_, ?_, fun i hi hj => by simp only at hi hj; omega, fun i hi hj => by simp only at hi hj; omega, fun i hi hj => by simp only at hi hj; omega, fun i hi => by simp only at hi; omega, fun i hi => by simp only at hi; omega, fun i hi => by simp only at hi; omega⟩, hb.trans (hB3.mono hs)⟩, ?_, ?_, ?_⟩
    · rw [show ((min 0 k : Nat) : Int) = 0 by omega]; exact pr _ _ (b2.alloc _)
    · rw [show ((0 - k : Nat) : Int) = 0 by omega]; exact pr _ _ b3
    · simpa using CN.nil
    · simpa using CN.nil
    · simpa using CN.nil
  have HT := Lib.hid hT
  clear hT HB1
  generalize w1.heap.size = A at HT ⊢
  go_loopw [33] (fun s33 wr => ∃ i : Nat, i ≤ n ∧ s33 = .int .i64 i ∧ OSt w A k xs i wr) (fun s33 _ => n - (RowKit.intOf s33).toNat)
  case atStart => exact ⟨0, Nat.zero_le _, rfl, HT.out⟩
  case round =>
    obtain ⟨i, hi, rfl, hS⟩ := hrel
    have hlen := HE.out.1
    by_cases hlt : i < n
    · have hlt1 : (i : Int) < n := by omega
      obtain ⟨j, hj⟩ : ∃ j : Nat, n - 1 - i = j := ⟨_, rfl⟩
      obtain ⟨a, rfl, hc⟩ := HE.out.2 i (by omega)
      obtain ⟨a', ha', hd⟩ := HE.out.2 j (by omega)
      injection ha' with ha'
      subst ha'
      have hj2 : (j : Int) < n := by omega
      have hw1 : IntKind.i64.wrap ((n : Int) - 1) = (n : Int) - 1 := by rw [IntKind.wrap_i64]; omega
      have hw2 : IntKind.i64.wrap ((n : Int) - 1 - (i : Int)) = (j : Int) := by rw [IntKind.wrap_i64]; omega
      have hw3 : IntKind.i64.wrap ((i : Int) + 1) = (i : Int) + 1 := by rw [IntKind.wrap_i64]; omega
      obtain ⟨xi, hxi⟩ : ∃ x, xs[i]? = some x := ⟨_, List.getElem?_eq_getElem (by omega)⟩
      obtain ⟨xj, hxj⟩ : ∃ x, xs[j]? = some x := ⟨_, List.getElem?_eq_getElem (by omega)⟩
      rw [(List.getElem?_eq_some_iff.1 hxi).2] at hc
      rw [(List.getElem?_eq_some_iff.1 hxj).2] at hd
      have hc' := (hS.bel.cell (block_lt_of_cell hc)).trans hc
      have hd' := (hS.bel.cell (block_lt_of_cell hd)).trans hd
      have HN := Lib.hid (hS.noteA (j := j) (by omega) (by omega) (by omega) hxj)
      have HC := Lib.hid (And.intro hc (And.intro hxi hlen))
      clear hS hc hd hxi hxj hj hlen
      go_wp2_with fail
      refine HN.out.mono ?_
      rintro e w5 ⟨rfl, hM⟩
      have hc5 := (hM.bel.cell (block_lt_of_cell HC.out.1)).trans HC.out.1
      have HM := Lib.hid hM
      clear hM hc' hd' HN
      by_cases hik : i < k
      · have hik1 : (i : Int) < k := by omega
        go_wp2_with fail
        refine (HM.out.noteB (by have := HC.out.2.2; omega) hik HC.out.2.1).mono ?_
        rintro e w6 ⟨rfl, hS⟩
        have HS := Lib.hid hS
        clear hS hc5 HM
        go_wp2_with fail
        go_roundw
        case rel => exact ⟨i + 1, by omega, rfl, HS.out⟩
        case measure => simp only [RowKit.intOf]; omega
      · have hik1 : ¬ (i : Int) < k := by omega
        go_wp2_with fail
        refine (HM.out.noteC (by have := HC.out.2.2; omega) hik HC.out.2.1).mono ?_
        rintro e w6 ⟨rfl, hS⟩
        have HS := Lib.hid hS
        clear hS hc5 HM
        go_wp2_with fail
        go_roundw
        case rel => exact ⟨i + 1, by omega, rfl, HS.out⟩
        case measure => simp only [RowKit.intOf]; omega
    · obtain rfl : i = n := by omega
      have hlt1 : ¬ (i : Int) < i := by omega
      have HJ := Lib.hid (show Calls Try.prog 27 #[.pointer (some ⟨A + 1, 0, none⟩), .pointer (some ⟨A + 1 + 1, 0, none⟩)] wr fun e w' => e = .returned (.tuple #[]) ∧ ∃ l, Duo w w' A (A + 1) l i ∧ KB l ∧ l.length ≤ i from by
        rw [← hlen] at hS hkn hi ⊢
        exact hS.join (by omega) hkn)
      clear hS HT hlen
      go_wp2_with fail
      refine HJ.out.mono ?_
      rintro e w5 ⟨rfl, l, hD, hkb, hll⟩
      have HD := Lib.hid (And.intro hD (And.intro hkb hll))
      have hll2 : l.length ≤ 100 := by omega
      clear hD hkb HJ hll
      go_wp2_with fail
      obtain ⟨S1, T1, p1, _⟩ := HD.out.1.ex
      refine (rowsR_c S1 A l i w5 p1).mono ?_
      rintro e w6 ⟨v6, rfl, o6, b6⟩
      obtain ⟨q6, c6, rfl, _⟩ := owns_row (owns0 o6)
      have H6 := Lib.hid (And.intro (HD.out.1.below b6) o6)
      clear o6 b6 p1
      go_wp2_with fail
      obtain ⟨S2, T2, _, p2⟩ := H6.out.1.ex
      refine (rowsR_c T2 (A + 1) l i w6 p2).mono ?_
      rintro e w7 ⟨v7, rfl, o7, b7⟩
      obtain ⟨q7, c7, rfl, _⟩ := owns_row (owns0 o7)
      have H7 := Lib.hid (And.intro (H6.out.1.below b7) (And.intro (owns_old b7 H6.out.2) o7))
      clear o7 b7 p2 H6
      go_wp2_with fail
      refine (eqrows_c _ _ _ _ l w7 (by omega) H7.out.2.1 H7.out.2.2).mono ?_
      rintro e w8 ⟨rfl, b8⟩
      have H8 := Lib.hid (H7.out.1.below b8)
      clear b8 H7
      go_wp2_with fail
      obtain ⟨S3, T3, p3, q3⟩ := H8.out.ex
      refine (many_c S3 A l i w8 p3).mono ?_
      rintro e w' ⟨rfl, rfl⟩
      go_wp2_with fail
      refine (many_c T3 (A + 1) l i w8 q3).mono ?_
      rintro e w' ⟨rfl, rfl⟩
      clear p3 q3
      go_wp2_with fail
      obtain ⟨S4, T4, p4, _⟩ := H8.out.ex
      refine (sum_c S4 A l i w8 p4 HD.out.2.1).mono ?_
      rintro e w9 ⟨rfl, b9⟩
      have H9 := Lib.hid (H8.out.below b9)
      clear b9 p4 H8
      go_wp2_with fail
      obtain ⟨S5, T5, _, p5⟩ := H9.out.ex
      refine (sum_c T5 (A + 1) l i w9 p5 HD.out.2.1).mono ?_
      rintro e wA ⟨rfl, bA⟩
      have HA := Lib.hid (H9.out.below bA)
      clear bA p5 H9
      have hmean : ∀ (W : World) (S : Nat → Prop) (r : Nat), PR W S r l (i : Int) → ∃ d : Option Nat, Calls Try.prog 18 #[.pointer (some ⟨r, 0, none⟩)] W fun e w' => ∃ c, e = .returned (.float .f64 c) ∧ (c = meanF (sumFrom 0 l).toNat i ∧ 0 < i ∨ i = 0 ∧ ∀ y, FloatKind.f64.format.order c y = none) ∧ Below W.heap.size W w' := by
        intro W S r h
        refine ⟨none, ?_⟩
        rcases Nat.eq_zero_or_pos i with hz | hp
        · have hl0 : l = [] := List.length_eq_zero_iff.1 (by have := HD.out.2.2; omega)
          subst hz
          subst hl0
          refine (mean_zero S r W h).mono ?_
          rintro e w' ⟨c, rfl, hn, hb⟩
          exact ⟨c, rfl, .inr ⟨rfl, hn⟩, hb⟩
        · have hsi := sumFrom_in HD.out.2.1 (fun x hx => (h.vals x hx).1) 0 (Int.le_refl _) (by omega)
          refine (mean_pos S r l i (sumFrom 0 l).toNat W h HD.out.2.1 (by omega) (by omega) hp).mono ?_
          rintro e w' ⟨rfl, hb⟩
          exact ⟨_, rfl, .inl ⟨rfl, hp⟩, hb⟩
      have HMn := Lib.hid hmean
      clear hmean
      go_wp2_with fail
      obtain ⟨S6, T6, p6, _⟩ := HA.out.ex
      refine (HMn.out wA S6 A p6).choose_spec.mono ?_
      rintro e wB ⟨m1, rfl, hm1, bB⟩
      have HB := Lib.hid (And.intro (HA.out.below bB) hm1)
      clear bB p6 HA hm1
      go_wp2_with fail
      obtain ⟨S7, T7, _, p7⟩ := HB.out.1.ex
      refine (HMn.out wB T7 (A + 1) p7).choose_spec.mono ?_
      rintro e wC ⟨m2, rfl, hm2, bC⟩
      have HC := Lib.hid (And.intro (HB.out.1.below bC) (And.intro HB.out.2 hm2))
      clear bC p7 HB hm2 HMn
      go_wp2_with fail
      refine (same_any m1 m2 wC (by
        rcases HC.out.2.1 with ⟨h1, h2⟩ | ⟨h1, h2⟩
        · rcases HC.out.2.2 with ⟨h3, _⟩ | ⟨h3, _⟩
          · exact .inl (h1.trans h3.symm)
          · omega
        · rcases HC.out.2.2 with ⟨_, h3⟩ | ⟨_, h4⟩
          · omega
          · exact .inr ⟨h2 _, h4 _, h2 _⟩)).mono ?_
      rintro e w' ⟨rfl, rfl⟩
      go_wp2_with fail
      obtain ⟨S8, T8, p8, _⟩ := HC.out.1.ex
      refine (at_c S8 A l i q wC p8 hq).mono ?_
      rintro e wD ⟨rfl, bD⟩
      have HDD := Lib.hid (HC.out.1.below bD)
      clear bD p8 HC
      go_wp2_with fail
      obtain ⟨S9, T9, _, p9⟩ := HDD.out.ex
      refine (at_c T9 (A + 1) l i q wD p9 hq).mono ?_
      rintro e wE ⟨rfl, bE⟩
      have HEE := Lib.hid (HDD.out.below bE)
      clear bE p9 HDD
      go_wp2_with fail
      refine (same_any _ _ wE (.inl rfl)).mono ?_
      rintro e w' ⟨rfl, rfl⟩
      go_wp2_with fail
      obtain ⟨S10, T10, p10, _⟩ := HEE.out.ex
      refine (most_c S10 A l i wE p10).mono ?_
      rintro e wF ⟨rfl, bF⟩
      have HF := Lib.hid (HEE.out.below bF)
      clear bF p10 HEE
      go_wp2_with fail
      obtain ⟨S11, T11, _, p11⟩ := HF.out.ex
      refine (most_c T11 (A + 1) l i wF p11).mono ?_
      rintro e wG ⟨rfl, bG⟩
      have HG := Lib.hid (HF.out.below bG).bel
      clear bG p11 HF
      go_wp2_with fail
      go_ret
      exact ⟨rfl, HG.out⟩
end Go.Proofs.Ytajklhlgakpgiaa
