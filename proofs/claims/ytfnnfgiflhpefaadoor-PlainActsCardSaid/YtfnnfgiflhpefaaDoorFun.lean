/-
  The functions of plain by contracts.
-/
import Derived.Test.YtfnnfgiflhpefaaDoorFun0
namespace Go.Proofs.YtfnnfgiflhpefaaDoor
open Go.RowKit Go.Lib

/-- slices.Insert of one pair, wherever it is. -/
theorem insert_c (v : Value) (n i vb : Nat) (tV : TypeId) (l : List Pr2) (x : Pr2) (w : World) (hb : n ≤ 1000) (hi : i ≤ n) (hown : w.ownsRow 0 35 2 v n (flat2 l)) (hvb : v.ownBlock ≠ some vb)
    (hv : Blk w vb tV #[.int .u64 x.key, .int .u64 x.val]) :
    Calls Tryd.prog 28 #[v, .int .i64 i, .slice (some ⟨vb, 0, none⟩) 1 1] w fun e w' =>
      ∃ v', e = .returned v' ∧ w'.ownsRow 0 35 2 v' (n + 1) (flat2 (putIn x i l)) ∧ w.grownBy w' v.ownBlock ∧ (v'.ownBlock = v.ownBlock ∨ v'.ownBlock = some w.heap.size) := by
  obtain ⟨p, c, rfl, hn, hnc, _, _, _⟩ := owns_row hown
  rcases Nat.lt_or_eq_of_le hi with hlt | rfl
  · rcases hown.2 with ⟨h0, h1⟩ | ⟨g, cap, cur, h0, _, hg, hc, hm, hs, ht⟩
    · omega
    · injection h0 with e1 e2 e3
      subst e1 e3
      have hne : vb ≠ g := fun e => hvb (by rw [e]; rfl)
      by_cases hroom : n + 1 ≤ c
      · refine (insert_shift g n c i vb _ tV cur l x w hlt hroom (by unfold maxLen at hm; omega) hne hn hg hs ht hv).mono ?_
        rintro e w' ⟨rfl, ⟨cur', g1, g2, g3⟩, hbut⟩
        refine ⟨_, rfl, ⟨by rw [flat2_length, putIn_length _ _ _ (by omega), hn], .inr ⟨g, c, cur', rfl, Nat.zero_le _, g1, hroom, hm, g2, g3⟩⟩, ⟨hbut.os, hbut.tape, hbut.output, hbut.size, fun k hk hne => hbut.block k hk fun e => hne (by rw [e]; rfl)⟩, .inl rfl⟩
      · refine (insert_grow g n c i vb 0 _ tV cur l x w hlt hnc (by omega) hb hn (Nat.zero_le _) hg ht hv).mono ?_
        rintro e w' ⟨v', rfl, g1, g2, g3⟩
        exact ⟨v', rfl, g1, ⟨g2.os, g2.tape, g2.output, g2.size, fun k hk _ => g2.block k hk⟩, .inr g3⟩
  · exact insert_end p i c vb 0 tV l x w hn hb (Nat.zero_le _) hown hv

/-- A function in a world, within a set of blocks that are its own. -/
structure PF (w : World) (S : Nat → Prop) (f : Nat) (most : Int) (l : List Pr2) : Prop where
  ex : ∃ v, Blk w f 63 #[.int .i64 most, v] ∧ w.ownsRow 0 35 2 v l.length (flat2 l) ∧ ∀ k, v.ownBlock = some k → S k ∧ k ≠ f
  own : S f
  lt : ∀ k, S k → k < w.heap.size
  sorted : SortP l
  small : l.length ≤ 1000
theorem PF.chg {S S' : Nat → Prop} {w w' : World} {f : Nat} {most : Int} {l : List Pr2} (H : PF w S f most l) (h : Chg S' w w') (hn : ∀ k, S k → ¬ S' k) : PF w' S f most l := by
  obtain ⟨v, h1, h2, h3⟩ := H.ex
  exact ⟨⟨v, h.blk h1 (hn f H.own), owns_chg h h2 (fun k hk => hn k (h3 k hk).1), h3⟩, H.own, fun k hk => Nat.lt_of_lt_of_le (H.lt k hk) h.size, H.sorted, H.small⟩
theorem PF.below {S : Nat → Prop} {w w' : World} {f : Nat} {most : Int} {l : List Pr2} (H : PF w S f most l) (h : Below w.heap.size w w') : PF w' S f most l :=
  H.chg (S' := fun _ => False) (Chg.of h) fun _ _ h => h

theorem new_c (most : Int) (w : World) : Calls Tryd.prog 12 #[.int .i64 most] w fun e w' => e = .returned (.pointer (some ⟨w.heap.size, 0, none⟩)) ∧ PF w' (fun k => k = w.heap.size) w.heap.size most [] ∧ Below w.heap.size w w' := by
  go_enter Tryd.func12, Tryd.ntmps12
  go_wp2
  go_ret
  refine ⟨rfl, ⟨⟨.slice none 0 0, Blk.new _ _ _, World.ownsRow_nil _ _ _ _, fun k hk => by cases hk⟩, rfl, fun k hk => by subst hk; simp, List.Pairwise.nil, Nat.zero_le _⟩, (Below.refl _ _).alloc (Nat.le_refl _) _⟩

theorem find_c (S : Nat → Prop) (f : Nat) (most : Int) (l : List Pr2) (key : Int) (w : World) (H : PF w S f most l) :
    Calls Tryd.prog 27 #[.pointer (some ⟨f, 0, none⟩), .int .u64 key] w fun e w' => ∃ k : Nat, k ≤ l.length ∧ LoAt l key k ∧ HiAt l key k ∧ e = .returned (.tuple #[.int .i64 (k : Int), .bool (hitAt l key k)]) ∧ Below w.heap.size w w' := by
  obtain ⟨v, h1, h2, h3⟩ := H.ex
  obtain ⟨p, c, rfl, hn, hnc, _, hR, _⟩ := owns_row h2
  have c1 := h1.cell 1
  have HC := Lib.hid (search_c p l.length c l key w rfl H.sorted.two hR (by have := H.small; omega))
  clear h2 h3 hR
  have f1 := h1.free 1
  go_enter Tryd.func27, Tryd.ntmps27
  go_wp2_with (go_at_call 34; refine HC.out.mono ?_; rintro e w1 ⟨k, k1, k2, k3, rfl, k5⟩)
  go_ret2
  exact ⟨k, k1, k2, k3, rfl, k5⟩
theorem len_c (S : Nat → Prop) (f : Nat) (most : Int) (l : List Pr2) (w : World) (H : PF w S f most l) :
    Calls Tryd.prog 24 #[.pointer (some ⟨f, 0, none⟩)] w fun e w' => e = .returned (.int .i64 l.length) ∧ w = w' := by
  obtain ⟨v, h1, h2, h3⟩ := H.ex
  obtain ⟨p, c, rfl, hn, hnc, _, hR, _⟩ := owns_row h2
  have c1 := h1.cell 1
  have f1 := h1.free 1
  clear h2 h3 hR
  go_enter Tryd.func24, Tryd.ntmps24
  go_wp2
  go_ret
  exact ⟨rfl, rfl⟩
theorem clear_c (S : Nat → Prop) (f : Nat) (most : Int) (l : List Pr2) (w : World) (H : PF w S f most l) :
    Calls Tryd.prog 22 #[.pointer (some ⟨f, 0, none⟩)] w fun e w' => e = .returned (.tuple #[]) ∧ PF w' S f most [] ∧ Chg S w w' := by
  obtain ⟨v, h1, h2, h3⟩ := H.ex
  obtain ⟨p, c, rfl, hn, hnc, _, hR, _⟩ := owns_row h2
  have c1 := h1.cell 1
  have f1 := h1.free 1
  have HH := Lib.hid (And.intro H h1)
  clear h2 h3 hR H
  go_enter Tryd.func22, Tryd.ntmps22
  go_wp2
  refine bodyPost_end (results_none rfl _ _ _) rfl ?_
  obtain ⟨H, h1⟩ := HH.out
  exact ⟨rfl, ⟨⟨.slice none 0 0, h1.set_ 1 _, World.ownsRow_nil _ _ _ _, fun k hk => by cases hk⟩, H.own, fun k hk => by simpa [World.setCell] using H.lt k hk, List.Pairwise.nil, Nat.zero_le _⟩, (Chg.refl _ _).set_ H.own _ _⟩
theorem get_c (S : Nat → Prop) (f : Nat) (most : Int) (l : List Pr2) (key : Int) (w : World) (H : PF w S f most l) :
    Calls Tryd.prog 16 #[.pointer (some ⟨f, 0, none⟩), .int .u64 key] w fun e w' => e = .returned (.tuple #[.int .u64 ((look l key).getD 0), .bool (look l key).isSome]) ∧ Below w.heap.size w w' := by
  have HF := Lib.hid (find_c S f most l key w H)
  have HH := Lib.hid H
  clear H
  go_enter Tryd.func16, Tryd.ntmps16
  go_wp2_with fail
  refine HF.out.mono ?_
  rintro e w1 ⟨k, k1, k2, k3, rfl, k5⟩
  have H1 := HH.out.below k5
  obtain ⟨v, h1, h2, h3⟩ := H1.ex
  obtain ⟨p, c, rfl, hn, hnc, _, hR, _⟩ := owns_row h2
  have c1 := h1.cell 1
  have f1 := h1.free 1
  have HK := Lib.hid (And.intro k2 (And.intro k3 k5))
  cases hh : hitAt l key k with
  | true =>
    obtain ⟨hk, hlk⟩ := hit_look k1 k2 hh
    obtain ⟨a, rfl, q0, q1⟩ := hR k hk
    have hki : (k : Int) < (l.length : Int) := by omega
    obtain ⟨xv, hxv⟩ : ∃ xv, xv = (l[k]'hk).val := ⟨_, rfl⟩
    rw [← hxv] at q1 hlk
    have HL := Lib.hid hlk
    clear h2 h3 hR q0 hlk hxv k2 k3 k5 H1 h1
    go_wp2_with fail
    go_ret2
    rw [HL.out]
    exact ⟨rfl, HK.out.2.2⟩
  | false =>
    have hlk := Lib.hid (miss_look HH.out.sorted k1 k2 k3 hh)
    clear h2 h3 hR k2 k3 k5 H1 h1 c1 f1
    go_wp2_with fail
    go_ret2
    rw [hlk.out]
    exact ⟨rfl, HK.out.2.2⟩
end Go.Proofs.YtfnnfgiflhpefaaDoor
