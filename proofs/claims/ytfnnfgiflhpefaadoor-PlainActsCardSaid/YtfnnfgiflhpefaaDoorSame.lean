/-
  Pairs (a copy), and Same, by contract.
-/
import Derived.Test.YtfnnfgiflhpefaaDoorDel
import Derived.Lib.SliceRun
namespace Go.Proofs.YtfnnfgiflhpefaaDoor
open Go.RowKit Go.Lib

deriving instance DecidableEq for Pr2

set_option maxHeartbeats 1000000 in
set_option maxRecDepth 100000 in
theorem clone_c (v : Value) (l : List Pr2) (w : World) (hs : l.length ≤ 1000) (h2 : w.ownsRow 0 35 2 v l.length (flat2 l)) :
    Calls Tryd.prog 25 #[v] w fun e w' => ∃ v', e = .returned v' ∧ w'.ownsRow 0 35 2 v' l.length (flat2 l) ∧ (∀ k, v'.ownBlock = some k → w.heap.size ≤ k) ∧ Below w.heap.size w w' := by
  obtain ⟨i0, hi0, hz0, hzs, hzb⟩ := info_pair
  have hlen := h2.1
  rcases h2.2 with ⟨rfl, h0⟩ | ⟨g, cap, cur, rfl, _, hg, hc, hm, hsz, ht⟩
  · have hl : l = [] := List.length_eq_zero_iff.1 h0
    subst hl
    have hnil : ∀ w, (binOp .eql 28 (.slice none 0 0) (.slice none 0 0)).run Tryd.prog w = .ok (.bool true) w := fun w => Lib.run_eql_slice_nil w _ _ none 0 0 0 0 Tryd.underlying28
    go_enter Tryd.func25, Tryd.ntmps25
    go_wp2
    go_ret
    exact ⟨_, rfl, World.ownsRow_nil _ _ _ _, (fun k hk => nomatch hk), Below.refl _ _⟩
  · have hgw := lt_of_block hg
    have hrun : ∀ ty, ∃ v' w', (Builtin.append_ #[28, 28] ty #[.slice (some ⟨w.heap.size, 0, none⟩) 0 0, .slice (some ⟨g, 0, none⟩) l.length cap]).run Tryd.prog (w.alloc (.cells #[] 35)) = .ok v' w' ∧ w'.ownsRow w.heap.size 35 2 v' l.length (flat2 l) ∧ (w.alloc (.cells #[] 35)).grownBy w' (some w.heap.size) := fun ty => by
      have hO := World.ownsRow_made (e := 35) (size := 2) (base := w.heap.size) w #[] 0 (Nat.le_refl _) (by decide) rfl
      obtain ⟨v', w', h1, h2, h3, _, h4⟩ := run_append_own_at (P := Tryd.prog) (w.alloc (.cells #[] 35)) w.heap.size 28 ty 35 i0 _ 2 16 Tryd.underlying28 hi0 hz0 hzs hzb rfl (by omega) _ 0 [] hO ⟨g, 0, none⟩ l.length cap (flat2 l) (flat2_length _) (fun j u hj => by
        rw [Addr.add_lit, Nat.zero_add, (Blk.alloc hg _).cell, ← Array.getElem?_toList]
        rw [← ht, List.getElem?_take] at hj
        split at hj
        · exact hj
        · cases hj) (flat2_one _) (by unfold maxLen; omega) (by omega) (by simp)
      rw [Nat.zero_add, List.nil_append] at h2
      exact ⟨v', w', h1, h2, h3⟩
    obtain ⟨v', w', h1, h3, h4⟩ := hrun 28
    have hnil : ∀ w, (binOp .eql 28 (.slice (some ⟨g, 0, none⟩) l.length cap) (.slice none 0 0)).run Tryd.prog w = .ok (.bool false) w := fun w => Lib.run_eql_slice_nil w _ _ (some _) _ _ 0 0 Tryd.underlying28
    have HX := Lib.hid (And.intro h3 h4)
    clear h3 h4 hrun h2 hg ht hsz
    go_enter Tryd.func25, Tryd.ntmps25
    go_wp2_with (at_builtin; refine Lib.wpList_append_run _ rfl _ _ _ _ rfl _ _ rfl rfl _ _ h1 ?_)
    go_ret
    obtain ⟨h3, h4⟩ := HX.out
    refine ⟨_, rfl, ?_, fun k hk => (h3.lt k hk).1, ?_⟩
    · refine ⟨h3.1, ?_⟩
      rcases h3.2 with c | ⟨g', cap', cur', e, hb, rest⟩
      · exact .inl c
      · exact .inr ⟨g', cap', cur', e, Nat.zero_le _, rest⟩
    · exact ⟨h4.os, h4.tape, h4.output, by have := h4.size; simp at this; omega, fun k hk => (h4.block k (by simp; omega) (by intro e; injection e with e; omega)).trans (Below.heap_alloc w _ k hk)⟩
theorem pairs_c (S : Nat → Prop) (f : Nat) (most : Int) (l : List Pr2) (w : World) (H : PF w S f most l) :
    Calls Tryd.prog 8 #[.pointer (some ⟨f, 0, none⟩)] w fun e w' => ∃ v', e = .returned v' ∧ w'.ownsRow 0 35 2 v' l.length (flat2 l) ∧ (∀ k, v'.ownBlock = some k → w.heap.size ≤ k) ∧ Below w.heap.size w w' := by
  obtain ⟨v, h1, h2, h3⟩ := H.ex
  have HC := Lib.hid (clone_c v l w H.small h2)
  obtain ⟨p, c, rfl, hn, hnc, _, hR, _⟩ := owns_row h2
  have c1 := h1.cell 1
  have f1 := h1.free 1
  clear h2 h3 hR
  go_enter Tryd.func8, Tryd.ntmps8
  go_wp2_with (go_at_call 25; refine HC.out.mono ?_; rintro e w1 ⟨v', rfl, k1, k2, k3⟩)
  go_ret
  exact ⟨_, rfl, k1, k2, k3⟩

set_option maxHeartbeats 1000000 in
set_option maxRecDepth 100000 in
theorem equal_c (p q : Option Addr) (n m c d : Nat) (l k : List Pr2) (w : World) (hn : l.length = n) (hm : k.length = m) (hb : n ≤ 1000) (hP : RowAt w p l) (hQ : RowAt w q k) :
    Calls Tryd.prog 29 #[.slice p n c, .slice q m d] w fun e w' => e = .returned (.bool (decide (l = k))) ∧ Below w.heap.size w w' := by
  have HR := Lib.hid (And.intro hP hQ)
  clear hP hQ
  by_cases hne : n = m
  · subst hne
    have mixed : Tryd.prog.follows .mixedOrders = true := by kernel_rfl
    go_enter Tryd.func29, Tryd.ntmps29
    go_wp2_with fail
    go_loopw [13] (fun s wr => ∃ i : Nat, i ≤ n ∧ s = .int .i64 i ∧ (∀ t (h1 : t < l.length) (h2 : t < k.length), t < i → l[t] = k[t]) ∧ Below w.heap.size w wr) (fun s _ => ((n : Int) - RowKit.intOf s).toNat)
    case atStart => exact ⟨0, by omega, rfl, fun t h1 h2 h => by omega, Below.refl _ _⟩
    case round =>
      obtain ⟨i, hi, rfl, heq, hbr⟩ := hrel
      have HS := Lib.hid (And.intro heq hbr)
      clear heq hbr
      by_cases hlt : i < n
      · have hi1 : i < l.length := by omega
        have hi2 : i < k.length := by omega
        obtain ⟨a, rfl, p0, p1⟩ := HR.out.1.below HS.out.2 i hi1
        obtain ⟨b, rfl, q0, q1⟩ := HR.out.2.below HS.out.2 i hi2
        have hin : (i : Int) < (n : Int) := by omega
        obtain ⟨xk, hxk⟩ : ∃ xk, xk = (l[i]'hi1).key := ⟨_, rfl⟩
        obtain ⟨xv, hxv⟩ : ∃ xv, xv = (l[i]'hi1).val := ⟨_, rfl⟩
        obtain ⟨yk, hyk⟩ : ∃ xk, xk = (k[i]'hi2).key := ⟨_, rfl⟩
        obtain ⟨yv, hyv⟩ : ∃ xv, xv = (k[i]'hi2).val := ⟨_, rfl⟩
        rw [← hxk] at p0
        rw [← hxv] at p1
        rw [← hyk] at q0
        rw [← hyv] at q1
        have HX := Lib.hid (And.intro (And.intro hxk hxv) (And.intro hyk hyv))
        clear hxk hxv hyk hyv
        have hext : (xk = yk ∧ xv = yv) ↔ l[i] = k[i] := by
          obtain ⟨⟨rfl, rfl⟩, rfl, rfl⟩ := HX.out
          cases h1 : l[i]
          cases h2 : k[i]
          simp
        have HE := Lib.hid hext
        clear hext
        by_cases e1 : xk = yk
        · by_cases e2 : xv = yv
          · go_upto_region 6 with fail
            go_region
            go_wp2_with fail
            go_roundw
            case rel =>
              refine ⟨i + 1, by omega, by go_num, fun t h1 h2 ht => ?_, HS.out.2.drew⟩
              rcases Nat.lt_or_ge t i with c | c
              · exact HS.out.1 t h1 h2 c
              · obtain rfl : t = i := by omega
                exact HE.out.1 ⟨e1, e2⟩
            case measure => simp [RowKit.intOf]; omega
          · go_upto_region 6 with fail
            go_region
            go_wp2_with fail
            go_ret
            refine ⟨?_, HS.out.2.drew⟩
            rw [decide_eq_false (fun e => e2 (HE.out.2 (by subst e; rfl)).2)]
            rfl
        · go_upto_region 6 with fail
          go_region
          go_wp2_with fail
          go_ret
          refine ⟨?_, HS.out.2.drew⟩
          rw [decide_eq_false (fun e => e1 (HE.out.2 (by subst e; rfl)).1)]
          rfl
      · obtain rfl : i = n := by omega
        go_wp2_with fail
        go_ret
        refine ⟨?_, HS.out.2⟩
        rw [decide_eq_true (List.ext_getElem (by omega) fun t h1 h2 => HS.out.1 t h1 h2 (by omega))]
        rfl
  · have hne2 : ¬ ((n : Int) = (m : Int)) := by omega
    go_enter Tryd.func29, Tryd.ntmps29
    go_wp2_with fail
    go_ret
    refine ⟨?_, Below.refl _ _⟩
    rw [decide_eq_false (fun e => hne (by rw [← hn, ← hm, e]))]
    rfl
theorem same_c (v u : Value) (n m : Nat) (l k : List Pr2) (w : World) (hb : n ≤ 1000) (hv : w.ownsRow 0 35 2 v n (flat2 l)) (hu : w.ownsRow 0 35 2 u m (flat2 k)) :
    Calls Tryd.prog 14 #[v, u] w fun e w' => e = .returned (.bool (decide (l = k))) ∧ Below w.heap.size w w' := by
  obtain ⟨p, c, rfl, hn, hnc, _, hR, _⟩ := owns_row hv
  obtain ⟨q, d, rfl, hm, hmd, _, hQ, _⟩ := owns_row hu
  have HC := Lib.hid (equal_c p q n m c d l k w hn hm hb hR hQ)
  clear hR hQ hv hu
  go_enter Tryd.func14, Tryd.ntmps14
  go_wp2_with (go_at_call 29; refine HC.out.mono ?_; rintro e w1 ⟨rfl, k1⟩)
  go_ret
  exact ⟨rfl, k1⟩
end Go.Proofs.YtfnnfgiflhpefaaDoor
