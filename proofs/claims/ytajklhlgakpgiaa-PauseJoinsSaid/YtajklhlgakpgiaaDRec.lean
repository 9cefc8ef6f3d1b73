/-
  A record of pauses: what it holds; add, Note, by contracts.
-/
import Derived.Test.YtajklhlgakpgiaaDFun0
namespace Go.Proofs.Ytajklhlgakpgiaa
open Go.RowKit Go.Lib

/-- slices.Insert of one pair, wherever it is. -/
theorem insert_c (v : Value) (n i vb : Nat) (tV : TypeId) (l : List Pr2) (x : Pr2) (w : World) (hb : n ≤ 1000) (hi : i ≤ n) (hown : w.ownsRow 0 58 2 v n (flat2 l)) (hvb : v.ownBlock ≠ some vb)
    (hv : Blk w vb tV #[.int .i64 x.key, .int .i64 x.val]) :
    Calls Try.prog 39 #[v, .int .i64 i, .slice (some ⟨vb, 0, none⟩) 1 1] w fun e w' =>
      ∃ v', e = .returned v' ∧ w'.ownsRow 0 58 2 v' (n + 1) (flat2 (putIn x i l)) ∧ w.grownBy w' v.ownBlock ∧ (v'.ownBlock = v.ownBlock ∨ v'.ownBlock = some w.heap.size) := by
  obtain ⟨p, c, rfl, hn, hnc, _, _, _⟩ := owns_row hown
  rcases Nat.lt_or_eq_of_le hi with hlt | rfl
  · rcases hown.2 with ⟨h0, h1⟩ | ⟨g, cap, cur, h0, _, hg, hc, hm, hs, ht⟩
    · omega
    · injection h0 with e1 e2 e3
      subst e1 e3
      have hne : vb ≠ g := fun e => hvb (by rw [e]; rfl)
      by_cases hroom : n + 1 ≤ c
      · refine (insert_shift g n c i vb _ tV cur l x w hlt hroom (by unfold maxLen at hm; omega) hne hn hg hs ht hv).mono ?_
        rintro e w' ⟨rfl, ⟨cur', g1, g2, g3⟩, hbut⟩
        refine ⟨_, rfl, ⟨by rw [flat2_length, putIn_length _ _ _ (by omega), hn], .inr ⟨g, c, cur', rfl, Nat.zero_le _, g1, hroom, hm, g2, g3⟩⟩, ⟨hbut.os, hbut.tape, hbut.output, hbut.size, fun k hk hne => hbut.block k hk fun e => hne (by rw [e]; rfl)⟩, .inl rfl⟩
      · refine (insert_grow g n c i vb 0 _ tV cur l x w hlt hnc (by omega) hb hn (Nat.zero_le _) hg ht hv).mono ?_
        rintro e w' ⟨v', rfl, g1, g2, g3⟩
        exact ⟨v', rfl, g1, ⟨g2.os, g2.tape, g2.output, g2.size, fun k hk _ => g2.block k hk⟩, .inr g3⟩
  · exact insert_end p i c vb 0 tV l x w hn hb (Nat.zero_le _) hown hv

theorem flat2_val (l : List Pr2) (k : Nat) (hk : k < l.length) (v : Int) : (flat2 l).set (k * 2 + 1) (.int .i64 v) = flat2 (l.take k ++ ⟨(l[k]).key, v⟩ :: l.drop (k + 1)) := by
  have h1 : flat2 l = flat2 (l.take k) ++ (.int .i64 (l[k]).key :: .int .i64 (l[k]).val :: flat2 (l.drop (k + 1))) := by
    conv => lhs; rw [← List.take_append_drop k l, ← List.getElem_cons_drop hk, flat2_app]
    rfl
  have h2 : (flat2 (l.take k)).length = k * 2 := by rw [flat2_length, List.length_take]; omega
  rw [h1, List.set_append_right _ _ (by omega), h2, show k * 2 + 1 - k * 2 = 1 by omega, flat2_app]
  rfl
/-- A set of blocks, and new ones. -/
def New (w : World) (S S' : Nat → Prop) : Prop := ∀ i, S' i → S i ∨ w.heap.size ≤ i
/-- A record in a world, within a set of blocks that are its own. -/
structure PR (w : World) (S : Nat → Prop) (r : Nat) (l : List Pr2) (many : Int) : Prop where
  ex : ∃ v, Blk w r 48 #[v, .int .i64 many] ∧ w.ownsRow 0 58 2 v l.length (flat2 l) ∧ ∀ k, v.ownBlock = some k → S k ∧ k ≠ r
  own : S r
  lt : ∀ k, S k → k < w.heap.size
  sorted : SortP l
  small : l.length ≤ 900
  vals : ∀ x ∈ l, 0 ≤ x.val ∧ x.val ≤ many
  most : 0 ≤ many ∧ many ≤ 1000000
theorem PR.chg {S S' : Nat → Prop} {w w' : World} {r : Nat} {l : List Pr2} {many : Int} (H : PR w S r l many) (h : Chg S' w w') (hn : ∀ k, S k → ¬ S' k) : PR w' S r l many := by
  obtain ⟨v, h1, h2, h3⟩ := H.ex
  exact ⟨⟨v, h.blk h1 (hn r H.own), owns_chg h h2 (fun k hk => hn k (h3 k hk).1), h3⟩, H.own, fun k hk => Nat.lt_of_lt_of_le (H.lt k hk) h.size, H.sorted, H.small, H.vals, H.most⟩
theorem PR.below {S : Nat → Prop} {w w' : World} {r : Nat} {l : List Pr2} {many : Int} (H : PR w S r l many) (h : Below w.heap.size w w') : PR w' S r l many :=
  H.chg (S' := fun _ => False) (Chg.of h) fun _ _ h => h
def addL (n k : Int) (l : List Pr2) : List Pr2 := insP n ((look l n).getD 0 + k) l
theorem insP_twice {n a b : Int} {l : List Pr2} (h : SortP l) : insP n a (insP n b l) = insP n a l :=
  sort_ext (insP_sort (insP_sort h)) (insP_sort h) fun q => by
    rw [look_insP (insP_sort h), look_insP h, look_insP h]
    by_cases hq : q = n
    · rw [if_pos hq, if_pos hq]
    · rw [if_neg hq, if_neg hq, if_neg hq]
/-- The two stores of add, told apart from how the row came. -/
theorem add_stores (S : Nat → Prop) (W : World) (r g c m k : Nat) (cur : Array Value) (l0 : List Pr2) (n v0 k0 many : Int)
    (hr : Blk W r 48 #[.slice (some ⟨g, 0, none⟩) m c, .int .i64 many]) (hg : Blk W g 58 cur) (hm : l0.length = m) (hc : m ≤ c) (hc6 : c ≤ maxLen) (hsz : cur.size = c * 2) (ht : cur.toList.take (m * 2) = flat2 l0)
    (hk : k < l0.length) (hx : l0[k] = ⟨n, v0⟩) (hs : SortP l0) (hgr : g ≠ r) (hSr : S r) (hSg : S g) (hlt : ∀ i, S i → i < W.heap.size) (hsm : m ≤ 900) (hvals : ∀ x ∈ l0, 0 ≤ x.val ∧ x.val ≤ many) (hk0 : 0 ≤ k0) (hmost : 0 ≤ many ∧ many + k0 ≤ 1000000) :
    PR ((W.setCell ⟨g, k * 2 + 1, none⟩ (.int .i64 (v0 + k0))).setCell ⟨r, 1, none⟩ (.int .i64 (many + k0))) S r (insP n (v0 + k0) l0) (many + k0) ∧ Chg S W ((W.setCell ⟨g, k * 2 + 1, none⟩ (.int .i64 (v0 + k0))).setCell ⟨r, 1, none⟩ (.int .i64 (many + k0))) := by
  have hsorted : ∀ a b (ha : a < l0.length) (hb : b < l0.length), a < b → l0[a].key < l0[b].key := fun a b ha hb hab => List.pairwise_iff_getElem.1 hs a b ha hb hab
  have hlo : LoAt l0 n k := fun t h htk => by have := hsorted t k h hk htk; rw [hx] at this; exact this
  have hh : hitAt l0 n k = true := by rw [hit_of hk, hx]; simp
  have hins := insP_hit (v := v0 + k0) (Nat.le_of_lt hk) hlo hh
  have hlook := (hit_look (Nat.le_of_lt hk) hlo hh).2
  have hlen : (insP n (v0 + k0) l0).length = m := by rw [insP_length hs, hlook]; simpa using hm
  have hC : Chg S W ((W.setCell ⟨g, k * 2 + 1, none⟩ (.int .i64 (v0 + k0))).setCell ⟨r, 1, none⟩ (.int .i64 (many + k0))) := ((Chg.refl S W).set_ hSg _ _).set_ hSr _ _
  refine ⟨⟨⟨.slice (some ⟨g, 0, none⟩) m c, ?_, ?_, fun i hi => ?_⟩, hSr, fun i hi => by simpa [World.setCell] using hlt i hi, insP_sort hs, by omega, fun x hx' => ?_, by omega⟩, hC⟩
  · exact (hr.far (p := ⟨g, k * 2 + 1, none⟩) (Ne.symm hgr) _).set_ 1 _
  · rw [hlen]
    refine ⟨by rw [flat2_length, hlen], .inr ⟨g, c, cur.setIfInBounds (k * 2 + 1) (.int .i64 (v0 + k0)), rfl, Nat.zero_le _, (hg.set_ (k * 2 + 1) _).far (p := ⟨r, 1, none⟩) hgr _, hc, hc6, by simpa using hsz, ?_⟩⟩
    have hkey : (l0[k]'hk).key = n := by rw [hx]
    rw [hins, ← hkey, ← flat2_val l0 k hk, ← ht]
    simp [List.take_set]
  · have : g = i := Option.some.inj hi
    exact ⟨this ▸ hSg, this ▸ hgr⟩
  · have hv0 := hvals _ (List.getElem_mem hk)
    rw [hx] at hv0
    rw [hins] at hx'
    rcases List.mem_append.1 hx' with c | c
    · have := hvals x (List.mem_of_mem_take c); omega
    · rcases List.mem_cons.1 c with rfl | c
      · simp only at hv0 ⊢; omega
      · have := hvals x (List.mem_of_mem_drop c); omega

set_option maxHeartbeats 1000000 in
set_option maxRecDepth 100000 in
theorem add_c (S : Nat → Prop) (r : Nat) (l : List Pr2) (n k0 many : Int) (w : World) (H : PR w S r l many) (hk0 : 0 ≤ k0) (hm : many + k0 ≤ 1000000) (hl : l.length < 900) :
    Calls Try.prog 34 #[.pointer (some ⟨r, 0, none⟩), .int .i64 n, .int .i64 k0] w fun e w' => e = .returned (.tuple #[]) ∧ ∃ S', PR w' S' r (addL n k0 l) (many + k0) ∧ Chg S w w' ∧ New w S S' := by
  obtain ⟨v, h1, h2, h3⟩ := H.ex
  obtain ⟨p, c, rfl, hn, hnc, _, hR, _⟩ := owns_row h2
  have HC := Lib.hid (search_c p l.length c l n w rfl H.sorted.two hR (by have := H.small; omega))
  have HH := Lib.hid (And.intro H (And.intro h1 (And.intro h2 h3)))
  have c0 := h1.cell 0
  have hmm := H.most
  have hw2 : IntKind.i64.wrap (many + k0) = many + k0 := by rw [IntKind.wrap_i64]; omega
  clear h1 h2 h3 hR H
  go_enter Try.func34, Try.ntmps34
  go_wp2_with fail
  refine HC.out.mono ?_
  rintro e w1 ⟨k, k1, k2, k3, rfl, k5⟩
  have h1 := HH.out.2.1.below k5
  have h2 := owns_chg (S := fun _ => False) (Chg.of k5) HH.out.2.2.1 fun _ _ h => h
  have h3 := HH.out.2.2.2
  have H1 := HH.out.1.below k5
  cases hh : hitAt l n k with
  | true =>
    obtain ⟨hk, hlk⟩ := hit_look k1 k2 hh
    have hkey : (l[k]'hk).key = n := by
      rw [hit_of hk] at hh
      simpa using hh
    obtain ⟨⟨e0, e1⟩ | ⟨g, cap, cur, e0, _, hg, hc, hcm, hsz, ht⟩⟩ := And.intro h2.2 trivial
    · omega
    · injection e0 with e1 e2 e3
      subst e1 e3
      obtain ⟨v0, hv0⟩ : ∃ v0, v0 = (l[k]'hk).val := ⟨_, rfl⟩
      have hx : l[k]'hk = ⟨n, v0⟩ := by rw [hv0, ← hkey]
      have hvb := H1.vals _ (List.getElem_mem hk)
      rw [← hv0] at hvb
      have hw1 : IntKind.i64.wrap (v0 + k0) = v0 + k0 := by rw [IntKind.wrap_i64]; omega
      have hki : (k : Int) < (l.length : Int) := by omega
      have hold : w1.cell? ⟨g, k * 2 + 1, none⟩ = some (.int .i64 v0) := by
        obtain ⟨p9, c9, e9, _, _, _, hR9, _⟩ := owns_row h2
        injection e9 with e10 _ _
        obtain ⟨a, e11, _, h12⟩ := hR9 k hk
        rw [← e10] at e11
        injection e11 with e11
        subst e11
        rw [← hv0] at h12
        simpa [Addr.add_lit] using h12
      have hfr : w1.frozen? ⟨g, k * 2 + 1, none⟩ = false := frozen_of_row w1 g _ cur _ hg
      have hgr := (h3 g rfl).2
      have c0' := h1.cell 0
      have h1f := h1.far (p := ⟨g, k * 2 + 1, none⟩) (Ne.symm hgr) (.int .i64 (v0 + k0))
      have m1 := h1f.cell 1
      have m2 := h1f.free 1
      have hlook : look l n = some v0 := by rw [hlk, hv0]
      have HK := Lib.hid (And.intro (add_stores S w1 r g c l.length k cur l n v0 k0 many h1 hg rfl hc hcm hsz ht hk hx H1.sorted hgr H1.own (h3 g rfl).1 H1.lt H1.small H1.vals hk0 ⟨hmm.1, hm⟩) (And.intro k5 hlook))
      clear h1 h2 h3 H1 h1f hg ht hsz hcm hx hlk hlook k2 k3 k5 hv0
      go_wp2_with fail
      refine bodyPost_end (results_none rfl _ _ _) rfl ?_
      obtain ⟨⟨g1, g2⟩, k5, hlook⟩ := HK.out
      exact ⟨rfl, S, by rw [addL, hlook]; exact g1, (Chg.of k5).trans g2 fun i hi => .inl hi, fun i hi => .inl hi⟩
  | false =>
    have hlook := miss_look HH.out.1.sorted k1 k2 k3 hh
    have hins := insP_miss (v := 0) HH.out.1.sorted k1 k2 k3 hh
    have hbA : Below w1.heap.size w1 (w1.alloc (.cells #[.int .i64 n, .int .i64 0] 58)) := (Below.refl _ _).alloc (Nat.le_refl _) _
    have hO : (w1.alloc (.cells #[.int .i64 n, .int .i64 0] 58)).ownsRow 0 58 2 (.slice p l.length c) l.length (flat2 l) := owns_chg (S := fun _ => False) (Chg.of hbA) h2 fun _ _ h => h
    have hV : Blk (w1.alloc (.cells #[.int .i64 n, .int .i64 0] 58)) w1.heap.size 58 #[.int .i64 n, .int .i64 0] := Blk.new _ _ _
    have hN : (Value.slice p l.length c).ownBlock ≠ some w1.heap.size := fun e => by
      have := (h2.lt _ e).2
      omega
    have HI := Lib.hid (insert_c _ l.length k w1.heap.size _ l ⟨n, 0⟩ _ (by omega) k1 hO hN hV)
    have c0' := h1.cell 0
    have HK := Lib.hid (And.intro h1 (And.intro h2 (And.intro h3 (And.intro H1 (And.intro k5 (And.intro hlook (And.intro hins hbA)))))))
    clear h1 h2 h3 H1 k2 k3 k5 hO hV hN hins hlook hbA
    go_wp2_with fail
    refine HI.out.mono ?_
    rintro e w3 ⟨v', rfl, o1, o2, o3⟩
    obtain ⟨h1, h2, h3, H1, k5, hlook, hins, hbA⟩ := HK.out
    have hb3 : Chg S w1 w3 := (Chg.of hbA).trans ((Chg.grown o2).mono fun i _ hi => (h3 i hi).1) fun i hi => .inl hi
    have hF3 : Blk w3 r 48 #[.slice p l.length c, .int .i64 many] := (Chg.grown o2).blk (h1.alloc _) fun e => (h3 r e).2 rfl
    have hplen : (putIn ⟨n, 0⟩ k l).length = l.length + 1 := putIn_length _ _ _ k1
    obtain ⟨⟨e0, e1⟩ | ⟨g, cap, cur, e0, _, hg, hc, hcm, hsz, ht⟩⟩ := And.intro o1.2 trivial
    · omega
    · subst e0
      have hgS : S g ∨ w1.heap.size ≤ g := by
        rcases o3 with c | c
        · exact .inl (h3 g (c.symm.trans rfl)).1
        · right
          have := Option.some.inj c
          simp at this
          omega
      have hgr : g ≠ r := fun e => by
        rcases o3 with c | c
        · exact (h3 g (c.symm.trans rfl)).2 e
        · have h4 := Option.some.inj c
          have := H1.lt r H1.own
          simp at h4
          omega
      have hk : k < (putIn (⟨n, 0⟩ : Pr2) k l).length := by omega
      have hx : (putIn (⟨n, 0⟩ : Pr2) k l)[k] = ⟨n, 0⟩ := by
        simp only [putIn]
        rw [List.getElem_append_right (by rw [List.length_take]; omega)]
        simp [List.length_take, Nat.min_eq_left k1]
      have hF4 := hF3.set_ 0 (.slice (some ⟨g, 0, none⟩) (l.length + 1) cap)
      have hC4 : Chg (fun i => i = r) w3 (w3.setCell ⟨r, 0, none⟩ (.slice (some ⟨g, 0, none⟩) (l.length + 1) cap)) := (Chg.refl (fun i => i = r) w3).set_ (b := r) rfl _ _
      have hg4 := hC4.blk hg hgr
      have hold : (w3.setCell ⟨r, 0, none⟩ (.slice (some ⟨g, 0, none⟩) (l.length + 1) cap)).cell? ⟨g, k * 2 + 1, none⟩ = some (.int .i64 0) := by
        obtain ⟨p9, c9, e9, _, _, _, hR9, _⟩ := owns_row (owns_chg hC4 o1 fun i hi e => hgr ((Option.some.inj hi).trans e))
        injection e9 with e10 _ _
        obtain ⟨a, e11, _, h12⟩ := hR9 k hk
        rw [← e10] at e11
        injection e11 with e11
        subst e11
        rw [hx] at h12
        simpa [Addr.add_lit] using h12
      have hfr : (w3.setCell ⟨r, 0, none⟩ (.slice (some ⟨g, 0, none⟩) (l.length + 1) cap)).frozen? ⟨g, k * 2 + 1, none⟩ = false := frozen_of_row _ g _ cur _ hg4
      have d0 := hF3.cell 0
      have f0 := hF3.free 0
      have d0' := hF4.cell 0
      have h1f := hF4.far (p := ⟨g, k * 2 + 1, none⟩) (Ne.symm hgr) (.int .i64 (0 + k0))
      have m1 := h1f.cell 1
      have m2 := h1f.free 1
      rw [Int.zero_add] at m1 m2
      have hw1 : IntKind.i64.wrap k0 = k0 := by rw [IntKind.wrap_i64]; omega
      have hki : (k : Int) < ((l.length + 1 : Nat) : Int) := by omega
      have hki2 : (k : Int) < (l.length : Int) + 1 := by omega
      have hsz3 := hb3.size
      have hst := add_stores (fun i => S i ∨ i = g) _ r g cap (l.length + 1) k cur (putIn ⟨n, 0⟩ k l) n 0 k0 many hF4 hg4 hplen hc hcm hsz ht hk hx (by rw [← hins]; exact insP_sort H1.sorted) hgr (.inl H1.own) (.inr rfl) (fun i hi => by
        rcases hi with hi | rfl
        · have := H1.lt i hi; simp [World.setCell]; omega
        · have := (o1.lt _ rfl).2; simpa [World.setCell] using this) (by omega) (fun x hx' => by
        simp only [putIn] at hx'
        rcases List.mem_append.1 hx' with c | c
        · exact H1.vals x (List.mem_of_mem_take c)
        · rcases List.mem_cons.1 c with rfl | c
          · exact ⟨Int.le_refl _, hmm.1⟩
          · exact H1.vals x (List.mem_of_mem_drop c)) hk0 ⟨hmm.1, hm⟩
      rw [← hins, insP_twice H1.sorted] at hst
      have HL := Lib.hid (And.intro hst (And.intro hb3 (And.intro hC4 (And.intro hgS (And.intro k5 hlook)))))
      clear h1 h2 h3 H1 k5 hlook hins hbA hb3 hF3 hF4 hC4 hg4 hg hc hcm hsz ht hst h1f o1 o2 o3 hx HI HK
      go_wp2_with fail
      refine bodyPost_end (results_none rfl _ _ _) rfl ?_
      obtain ⟨⟨g1, g2⟩, hb3, hC4, hgS, k5, hlook⟩ := HL.out
      rw [Int.zero_add] at g1 g2
      have hSr := HH.out.1.own
      have hCC := (hb3.trans (hC4.mono (S' := S) fun i _ hi => hi ▸ hSr) fun i hi => .inl hi).trans g2 fun i hi => hi.elim .inl fun e => by rw [e]; exact hgS.elim .inl fun h => .inr h
      refine ⟨rfl, fun i => S i ∨ i = g, by rw [addL, hlook]; simpa using g1, (Chg.of k5).trans hCC fun i hi => .inl hi, fun i hi => ?_⟩
      rcases hi with hi | rfl
      · exact .inl hi
      · rcases hgS with h | h
        · exact .inl h
        · exact .inr (by have := k5.size; omega)
end Go.Proofs.Ytajklhlgakpgiaa
