/-
  Put, by contract.
-/
import Derived.Test.YtfnnfgiflhpefaaDoorFun
namespace Go.Proofs.YtfnnfgiflhpefaaDoor
open Go.RowKit Go.Lib

theorem flat2_val (l : List Pr2) (k : Nat) (hk : k < l.length) (v : Int) : (flat2 l).set (k * 2 + 1) (.int .u64 v) = flat2 (l.take k ++ ⟨(l[k]).key, v⟩ :: l.drop (k + 1)) := by
  have h1 : flat2 l = flat2 (l.take k) ++ (.int .u64 (l[k]).key :: .int .u64 (l[k]).val :: flat2 (l.drop (k + 1))) := by
    conv => lhs; rw [← List.take_append_drop k l, ← List.getElem_cons_drop hk, flat2_app]
    rfl
  have h2 : (flat2 (l.take k)).length = k * 2 := by rw [flat2_length, List.length_take]; omega
  rw [h1, List.set_append_right _ _ (by omega), h2, show k * 2 + 1 - k * 2 = 1 by omega, flat2_app]
  rfl
/-- What Put answers, and what it leaves. -/
def putNo (most : Int) (l : List Pr2) (key : Int) : Nat := if (look l key).isSome = true ∨ (l.length : Int) < most then 0 else 2
def putL (most : Int) (l : List Pr2) (key val : Int) : List Pr2 := if (look l key).isSome = true ∨ (l.length : Int) < most then insP key val l else l
/-- A set of blocks, and new ones. -/
def New (w : World) (S S' : Nat → Prop) : Prop := ∀ i, S' i → S i ∨ w.heap.size ≤ i

set_option maxHeartbeats 1000000 in
theorem put_hit (S : Nat → Prop) (f : Nat) (most : Int) (l : List Pr2) (key val : Int) (w : World) (H : PF w S f most l) (hs : (look l key).isSome = true) :
    Calls Tryd.prog 13 #[.pointer (some ⟨f, 0, none⟩), .int .u64 key, .int .u64 val] w fun e w' => e = .returned .nilIface ∧ PF w' S f most (insP key val l) ∧ Chg S w w' := by
  have HF := Lib.hid (find_c S f most l key w H)
  have HH := Lib.hid (And.intro H hs)
  clear H hs
  go_enter Tryd.func13, Tryd.ntmps13
  go_wp2_with fail
  refine HF.out.mono ?_
  rintro e w1 ⟨k, k1, k2, k3, rfl, k5⟩
  have H1 := HH.out.1.below k5
  obtain ⟨v, h1, h2, h3⟩ := H1.ex
  have h2' := h2
  obtain ⟨p, c, rfl, hn, hnc, _, hR, _⟩ := owns_row h2
  have c1 := h1.cell 1
  have f1 := h1.free 1
  cases hh : hitAt l key k with
  | true =>
    obtain ⟨hk, hlk⟩ := hit_look k1 k2 hh
    have hins := insP_hit (v := val) k1 k2 hh
    have hkey : (l[k]'hk).key = key := by
      rw [hit_of hk] at hh
      simpa using hh
    obtain ⟨⟨e0, e1⟩ | ⟨g, cap, cur, e0, _, hg, hc, hm, hsz, ht⟩⟩ := And.intro h2.2 trivial
    · omega
    · injection e0 with e1 e2 e3
      subst e1 e3
      have hki : (k : Int) < (l.length : Int) := by omega
      have hcs : (w1.cell? ⟨g, k * 2 + 1, none⟩).isSome = true := by
        rw [cell_of_row w1 g _ cur _ _ hg]
        simp
        omega
      obtain ⟨old, hold⟩ := Option.isSome_iff_exists.1 hcs
      have hfr : w1.frozen? ⟨g, k * 2 + 1, none⟩ = false := frozen_of_row w1 g _ cur _ hg
      have HK := Lib.hid (And.intro h1 (And.intro hg (And.intro hins (And.intro hkey (And.intro hsz (And.intro ht (And.intro h3 (And.intro H1 k5))))))))
      clear h2 h3 hR hcs hlk k2 k3 k5 H1 h1 hg hins hkey hsz ht h2'
      go_wp2_with fail
      go_ret
      obtain ⟨h1, hg, hins, hkey, hsz, ht, h3, H1, k5⟩ := HK.out
      obtain ⟨s1, s2⟩ := h3 g rfl
      refine ⟨rfl, ⟨⟨.slice (some ⟨g, 0, none⟩) (insP key val l).length c, ?_, ?_, h3⟩, H1.own, fun i hi => by simpa [World.setCell] using H1.lt i hi, insP_sort H1.sorted, ?_⟩, ((Chg.of k5).trans ((Chg.refl S w1).set_ s1 _ _) fun i hi => .inl hi)⟩
      · rw [insP_length H1.sorted, if_pos HH.out.2]
        exact h1.far (Ne.symm s2) _
      · refine ⟨flat2_length _, .inr ⟨g, c, cur.setIfInBounds (k * 2 + 1) (.int .u64 val), rfl, Nat.zero_le _, heap_setCell_same w1 g _ cur _ _ hg, ?_, hm, by simpa using hsz, ?_⟩⟩
        · rw [insP_length H1.sorted, if_pos HH.out.2]
          exact hnc
        · rw [insP_length H1.sorted, if_pos HH.out.2, hins, ← hkey, ← flat2_val l k hk, ← ht]
          simp [List.take_set]
      · rw [insP_length H1.sorted, if_pos HH.out.2]
        exact H1.small
  | false =>
    have := miss_look HH.out.1.sorted k1 k2 k3 hh
    have h5 := HH.out.2
    rw [this] at h5
    cases h5

set_option maxHeartbeats 1000000 in
theorem put_full (S : Nat → Prop) (f : Nat) (most : Int) (l : List Pr2) (key val : Int) (ea : Addr) (w : World) (H : PF w S f most l) (hE : ErrAt w 0 ea) (hs : look l key = none) (hm : most ≤ (l.length : Int)) :
    Calls Tryd.prog 13 #[.pointer (some ⟨f, 0, none⟩), .int .u64 key, .int .u64 val] w fun e w' => e = .returned (.iface 92 (.pointer (some ea))) ∧ Below w.heap.size w w' := by
  have HF := Lib.hid (find_c S f most l key w H)
  have HH := Lib.hid (And.intro H (And.intro hs hE))
  clear H hs hE
  go_enter Tryd.func13, Tryd.ntmps13
  go_wp2_with fail
  refine HF.out.mono ?_
  rintro e w1 ⟨k, k1, k2, k3, rfl, k5⟩
  cases hh : hitAt l key k with
  | true =>
    obtain ⟨hk, hlk⟩ := hit_look k1 k2 hh
    rw [HH.out.2.1] at hlk
    cases hlk
  | false =>
    have H1 := HH.out.1.below k5
    obtain ⟨v, h1, h2, h3⟩ := H1.ex
    obtain ⟨p, c, rfl, hn, hnc, _, hR, _⟩ := owns_row h2
    have c1 := h1.cell 1
    have c0 := h1.cell 0
    have f1 := h1.free 1
    have hE := HH.out.2.2.same k5
    unfold ErrAt at hE
    have HK := Lib.hid k5
    have hm2 : (l.length : Int) ≥ most := hm
    have mixed : Tryd.prog.follows .mixedOrders = true := by kernel_rfl
    clear h2 h3 hR k2 k3 k5 H1 h1 HF
    go_wp2_with fail
    go_region
    go_wp2_with fail
    go_ret
    exact ⟨rfl, HK.out.drew⟩

set_option maxHeartbeats 1000000 in
theorem put_new (S : Nat → Prop) (f : Nat) (most : Int) (l : List Pr2) (key val : Int) (w : World) (H : PF w S f most l) (hs : look l key = none) (hm : (l.length : Int) < most) (hl : l.length < 1000) :
    Calls Tryd.prog 13 #[.pointer (some ⟨f, 0, none⟩), .int .u64 key, .int .u64 val] w fun e w' => e = .returned .nilIface ∧ ∃ S', PF w' S' f most (insP key val l) ∧ Chg S w w' ∧ New w S S' := by
  have HF := Lib.hid (find_c S f most l key w H)
  have HH := Lib.hid (And.intro H hs)
  clear H hs
  go_enter Tryd.func13, Tryd.ntmps13
  go_wp2_with fail
  refine HF.out.mono ?_
  rintro e w1 ⟨k, k1, k2, k3, rfl, k5⟩
  cases hh : hitAt l key k with
  | true =>
    obtain ⟨hk, hlk⟩ := hit_look k1 k2 hh
    rw [HH.out.2] at hlk
    cases hlk
  | false =>
    have H1 := HH.out.1.below k5
    obtain ⟨v, h1, h2, h3⟩ := H1.ex
    have hins := insP_miss (v := val) HH.out.1.sorted k1 k2 k3 hh
    obtain ⟨p, c, hv, hn, hnc, _, _, _⟩ := owns_row h2
    have c1 := h1.cell 1
    have c0 := h1.cell 0
    have f1 := h1.free 1
    have HK := Lib.hid (And.intro h1 (And.intro h2 (And.intro hins (And.intro h3 (And.intro H1 k5)))))
    subst hv
    have hm2 : ¬ (l.length : Int) ≥ most := by omega
    have hl2 : l.length ≤ 1000 := by omega
    have mixed : Tryd.prog.follows .mixedOrders = true := by kernel_rfl
    clear h2 h3 k2 k3 k5 H1 h1 hins HF
    go_wp2_with fail
    go_region
    go_wp2_with fail
    obtain ⟨h1, h2, hins, h3, H1, k5⟩ := HK.out
    have hbA : Below w1.heap.size w1 (w1.alloc (.cells #[.int .u64 key, .int .u64 val] 35)).drew := ((Below.refl _ _).alloc (Nat.le_refl _) _).drew
    have hO : (w1.alloc (.cells #[.int .u64 key, .int .u64 val] 35)).drew.ownsRow 0 35 2 (.slice p l.length c) l.length (flat2 l) := owns_chg (S := fun _ => False) (Chg.of hbA) h2 fun _ _ h => h
    have hV : Blk (w1.alloc (.cells #[.int .u64 key, .int .u64 val] 35)).drew w1.heap.size 35 #[.int .u64 key, .int .u64 val] := (Blk.new _ _ _).drew
    have hN : (Value.slice p l.length c).ownBlock ≠ some w1.heap.size := fun e => by
      have := (h2.lt _ e).2
      omega
    refine (insert_c _ l.length k w1.heap.size _ l ⟨key, val⟩ _ hl2 k1 hO hN hV).mono ?_
    rintro e w3 ⟨v', rfl, o1, o2, o3⟩
    obtain ⟨p', c', rfl, _, _, _, _, _⟩ := owns_row o1
    have hF3 : Blk w3 f 63 #[.int .i64 most, .slice p l.length c] := (Chg.grown o2).blk ((h1.alloc _).drew) fun e => (h3 f e).2 rfl
    have q1 := hF3.cell 1
    have q2 := hF3.free 1
    have HL := Lib.hid (And.intro hF3 (And.intro o1 (And.intro o2 (And.intro o3 (And.intro hbA HK.out)))))
    clear h1 h2 hins h3 H1 k5 hbA hO hV hN hF3 o1 o2 o3 c1 c0 f1
    go_wp2_with fail
    go_ret
    obtain ⟨hF3, o1, o2, o3, hbA, h1, h2, hins, h3, H1, k5⟩ := HL.out
    have hlen : (insP key val l).length = l.length + 1 := by rw [insP_length H1.sorted, HH.out.2]; rfl
    have hs1 : w1.heap.size ≤ w3.heap.size := Nat.le_trans hbA.size o2.size
    have hvne : ∀ i, (Value.slice p' (l.length + 1) c').ownBlock = some i → i ≠ f := fun i hi e => by
      subst e
      rcases o3 with c | c
      · exact (h3 i (c.symm.trans hi)).2 rfl
      · rw [c] at hi
        have := (Option.some.inj hi)
        have h4 := H1.lt i H1.own
        simp at this
        omega
    refine ⟨rfl, fun i => S i ∨ (Value.slice p' (l.length + 1) c').ownBlock = some i, ⟨⟨_, hF3.set_ 1 _, ?_, fun i hi => ⟨.inr hi, hvne i hi⟩⟩, .inl H1.own, ?_, insP_sort H1.sorted, by omega⟩, ?_, ?_⟩
    · rw [hlen, hins]
      exact owns_chg (S := fun i => i = f) ((Chg.refl (fun i => i = f) w3).set_ rfl _ _) o1 fun i hi => hvne i hi
    · intro i hi
      rcases hi with hi | hi
      · have := H1.lt i hi
        simp [World.setCell]
        omega
      · have := (o1.lt i hi).2
        simpa [World.setCell] using this
    · refine Chg.trans (S' := S) (Chg.of k5) ?_ fun i hi => .inl hi
      refine Chg.trans (S' := S) (Chg.of hbA) ?_ fun i hi => .inl hi
      refine Chg.set_ ?_ H1.own _ _
      exact (Chg.grown o2).mono fun i _ hi => (h3 i hi).1
    · intro i hi
      rcases hi with hi | hi
      · exact .inl hi
      · rcases o3 with c | c
        · exact .inl (h3 i (c.symm.trans hi)).1
        · rw [c] at hi
          have := (Option.some.inj hi)
          simp at this
          have := k5.size
          right
          omega

/-- All of Put. -/
theorem put_c (S : Nat → Prop) (f : Nat) (most : Int) (l : List Pr2) (key val : Int) (ea : Nat → Addr) (w : World) (H : PF w S f most l) (hE : ErrAt w 0 (ea 1)) (hl : l.length < 1000) :
    Calls Tryd.prog 13 #[.pointer (some ⟨f, 0, none⟩), .int .u64 key, .int .u64 val] w fun e w' => e = .returned (errV ea (putNo most l key)) ∧ ∃ S', PF w' S' f most (putL most l key val) ∧ Chg S w w' ∧ New w S S' := by
  cases hs : look l key with
  | some v =>
    have h1 : (look l key).isSome = true := by rw [hs]; rfl
    rw [putNo, putL, if_pos (.inl h1), if_pos (.inl h1)]
    refine (put_hit S f most l key val w H h1).mono ?_
    rintro e w' ⟨rfl, h2, h3⟩
    exact ⟨rfl, S, h2, h3, fun i hi => .inl hi⟩
  | none =>
    by_cases hm : (l.length : Int) < most
    · rw [putNo, putL, if_pos (.inr hm), if_pos (.inr hm)]
      exact put_new S f most l key val w H hs hm hl
    · have h1 : ¬ ((look l key).isSome = true ∨ (l.length : Int) < most) := by rw [hs]; simp; omega
      rw [putNo, putL, if_neg h1, if_neg h1]
      refine (put_full S f most l key val (ea 1) w H hE hs (by omega)).mono ?_
      rintro e w' ⟨rfl, h2⟩
      exact ⟨rfl, S, H.below h2, Chg.of h2, fun i hi => .inl hi⟩
end Go.Proofs.YtfnnfgiflhpefaaDoor
