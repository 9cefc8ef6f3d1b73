/-
  Join, by contract.
-/
import Derived.Test.YtajklhlgakpgiaaDOps
import Derived.Lib.SliceRun
namespace Go.Proofs.Ytajklhlgakpgiaa
open Go.RowKit Go.Lib

set_option maxHeartbeats 1000000 in
set_option maxRecDepth 100000 in
theorem clone_c (v : Value) (l : List Pr2) (w : World) (hs : l.length ≤ 1000) (h2 : w.ownsRow 0 58 2 v l.length (flat2 l)) :
    Calls Try.prog 35 #[v] w fun e w' => ∃ v', e = .returned v' ∧ w'.ownsRow 0 58 2 v' l.length (flat2 l) ∧ (∀ k, v'.ownBlock = some k → w.heap.size ≤ k) ∧ Below w.heap.size w w' := by
  obtain ⟨i0, hi0, hz0, hzs, hzb⟩ := info_pair
  have hlen := h2.1
  rcases h2.2 with ⟨rfl, h0⟩ | ⟨g, cap, cur, rfl, _, hg, hc, hm, hsz, ht⟩
  · have hl : l = [] := List.length_eq_zero_iff.1 h0
    subst hl
    have hnil : ∀ w, (binOp .eql 46 (.slice none 0 0) (.slice none 0 0)).run Try.prog w = .ok (.bool true) w := fun w => Lib.run_eql_slice_nil w _ _ none 0 0 0 0 Try.underlying46
    go_enter Try.func35, Try.ntmps35
    go_wp2
    go_ret
    exact ⟨_, rfl, World.ownsRow_nil _ _ _ _, (fun k hk => nomatch hk), Below.refl _ _⟩
  · have hgw := lt_of_block hg
    have hrun : ∀ ty, ∃ v' w', (Builtin.append_ #[46, 46] ty #[.slice (some ⟨w.heap.size, 0, none⟩) 0 0, .slice (some ⟨g, 0, none⟩) l.length cap]).run Try.prog (w.alloc (.cells #[] 58)) = .ok v' w' ∧ w'.ownsRow w.heap.size 58 2 v' l.length (flat2 l) ∧ (w.alloc (.cells #[] 58)).grownBy w' (some w.heap.size) := fun ty => by
      have hO := World.ownsRow_made (e := 58) (size := 2) (base := w.heap.size) w #[] 0 (Nat.le_refl _) (by decide) rfl
      obtain ⟨v', w', h1, h2, h3, _, h4⟩ := run_append_own_at (P := Try.prog) (w.alloc (.cells #[] 58)) w.heap.size 46 ty 58 i0 _ 2 16 Try.underlying46 hi0 hz0 hzs hzb rfl (by omega) _ 0 [] hO ⟨g, 0, none⟩ l.length cap (flat2 l) (flat2_length _) (fun j u hj => by
        rw [Addr.add_lit, Nat.zero_add, (Blk.alloc hg _).cell, ← Array.getElem?_toList]
        rw [← ht, List.getElem?_take] at hj
        split at hj
        · exact hj
        · cases hj) (flat2_one _) (by unfold maxLen; omega) (by omega) (by simp)
      rw [Nat.zero_add, List.nil_append] at h2
      exact ⟨v', w', h1, h2, h3⟩
    obtain ⟨v', w', h1, h3, h4⟩ := hrun 46
    have hnil : ∀ w, (binOp .eql 46 (.slice (some ⟨g, 0, none⟩) l.length cap) (.slice none 0 0)).run Try.prog w = .ok (.bool false) w := fun w => Lib.run_eql_slice_nil w _ _ (some _) _ _ 0 0 Try.underlying46
    have HX := Lib.hid (And.intro h3 h4)
    clear h3 h4 hrun h2 hg ht hsz
    go_enter Try.func35, Try.ntmps35
    go_wp2_with (at_builtin; refine Lib.wpList_append_run _ rfl _ _ _ _ rfl _ _ rfl rfl _ _ h1 ?_)
    go_ret
    obtain ⟨h3, h4⟩ := HX.out
    refine ⟨_, rfl, ?_, fun k hk => (h3.lt k hk).1, ?_⟩
    · refine ⟨h3.1, ?_⟩
      rcases h3.2 with c | ⟨g', cap', cur', e, hb, rest⟩
      · exact .inl c
      · exact .inr ⟨g', cap', cur', e, Nat.zero_le _, rest⟩
    · exact ⟨h4.os, h4.tape, h4.output, by have := h4.size; simp at this; omega, fun k hk => (h4.block k (by simp; omega) (by intro e; injection e with e; omega)).trans (Below.heap_alloc w _ k hk)⟩

def joinL (l k : List Pr2) : List Pr2 := k.foldl (fun l x => addL x.key x.val l) l
def sumV (l : List Pr2) : Int := (l.map Pr2.val).sum
theorem addL_sort {n k : Int} {l : List Pr2} (h : SortP l) : SortP (addL n k l) := insP_sort h
theorem addL_look {n k : Int} {l : List Pr2} (h : SortP l) (q : Int) : look (addL n k l) q = if q = n then some ((look l n).getD 0 + k) else look l q := look_insP h q
theorem addL_len {n k : Int} {l : List Pr2} (h : SortP l) : (addL n k l).length ≤ l.length + 1 := by
  rw [addL, insP_length h]; split <;> omega
theorem sumV_ins {n v : Int} {l : List Pr2} (h : SortP l) : sumV (insP n v l) = sumV l - (look l n).getD 0 + v := by
  induction l with
  | nil => simp [insP, sumV, look]
  | cons x l ih =>
    obtain ⟨t1, t2⟩ : SortP l ∧ ∀ y ∈ l, x.key < y.key := ⟨(List.pairwise_cons.1 h).2, (List.pairwise_cons.1 h).1⟩
    simp only [insP, look]
    by_cases h1 : x.key < n
    · rw [if_pos h1, if_neg (by omega)]
      have := ih t1
      simp only [sumV, List.map_cons, List.sum_cons] at this ⊢
      omega
    · rw [if_neg h1]
      by_cases h2 : x.key = n
      · rw [if_pos h2, if_pos h2]
        simp only [sumV, List.map_cons, List.sum_cons, Option.getD_some]
        omega
      · rw [if_neg h2, if_neg h2]
        have : look l n = none := look_none_of fun y hy e => by have := t2 y hy; omega
        rw [this]
        simp only [sumV, List.map_cons, List.sum_cons, Option.getD_none]
        omega
theorem sumV_add {n k : Int} {l : List Pr2} (h : SortP l) : sumV (addL n k l) = sumV l + k := by
  rw [addL, sumV_ins h]
  omega
theorem joinL_sort {k : List Pr2} : ∀ {l : List Pr2}, SortP l → SortP (joinL l k) := by
  induction k with
  | nil => intro l h; exact h
  | cons x k ih => intro l h; exact ih (addL_sort h)
theorem joinL_len {k : List Pr2} : ∀ {l : List Pr2}, SortP l → (joinL l k).length ≤ l.length + k.length := by
  induction k with
  | nil => intro l h; exact Nat.le_refl _
  | cons x k ih =>
    intro l h
    have h1 := ih (addL_sort (n := x.key) (k := x.val) h)
    have h2 := addL_len (n := x.key) (k := x.val) h
    simp only [joinL, List.foldl_cons, List.length_cons] at h1 ⊢
    omega
theorem joinL_sum {k : List Pr2} : ∀ {l : List Pr2}, SortP l → sumV (joinL l k) = sumV l + sumV k := by
  induction k with
  | nil => intro l h; simp [joinL, sumV]
  | cons x k ih =>
    intro l h
    have h1 := ih (addL_sort (n := x.key) (k := x.val) h)
    rw [sumV_add h] at h1
    simp only [joinL, List.foldl_cons, sumV, List.map_cons, List.sum_cons] at h1 ⊢
    omega
theorem joinL_look {k : List Pr2} (hk : SortP k) : ∀ {l : List Pr2}, SortP l → ∀ q, look (joinL l k) q = match look k q with | some v => some ((look l q).getD 0 + v) | none => look l q := by
  induction k with
  | nil => intro l h q; rfl
  | cons x k ih =>
    intro l h q
    obtain ⟨t1, t2⟩ : SortP k ∧ ∀ y ∈ k, x.key < y.key := ⟨(List.pairwise_cons.1 hk).2, (List.pairwise_cons.1 hk).1⟩
    have h1 := ih t1 (addL_sort (n := x.key) (k := x.val) h) q
    show look (joinL (addL x.key x.val l) k) q = _
    rw [h1, addL_look h]
    simp only [look]
    by_cases hq : x.key = q
    · subst hq
      rw [if_pos rfl, if_pos rfl]
      have : look k x.key = none := look_none_of fun y hy e => by have := t2 y hy; omega
      rw [this]
    · rw [if_neg hq, if_neg (fun e => hq e.symm)]
theorem take_snoc {l : List Pr2} {i : Nat} (h : i < l.length) : l.take (i + 1) = l.take i ++ [l[i]] := by
  rw [List.take_add_one, List.getElem?_eq_getElem h]; rfl
theorem joinL_snoc (l k : List Pr2) (x : Pr2) : joinL l (k ++ [x]) = addL x.key x.val (joinL l k) := by simp [joinL]
theorem sumV_snoc (k : List Pr2) (x : Pr2) : sumV (k ++ [x]) = sumV k + x.val := by simp [sumV]
theorem sumV_app (a b : List Pr2) : sumV (a ++ b) = sumV a + sumV b := by simp [sumV]
theorem sumV_take {k : List Pr2} (h : ∀ x ∈ k, 0 ≤ x.val) (i : Nat) : 0 ≤ sumV (k.take i) ∧ sumV (k.take i) ≤ sumV k := by
  have nn : ∀ m : List Pr2, (∀ x ∈ m, 0 ≤ x.val) → 0 ≤ sumV m := by
    intro m
    induction m with
    | nil => intro _; simp [sumV]
    | cons x m ih =>
      intro hm
      have h1 := hm x (List.mem_cons_self ..)
      have h2 := ih fun y hy => hm y (List.mem_cons_of_mem _ hy)
      simp only [sumV, List.map_cons, List.sum_cons] at h2 ⊢
      omega
  have h1 := sumV_app (k.take i) (k.drop i)
  rw [List.take_append_drop] at h1
  have h2 := nn (k.take i) fun x hx => h x (List.mem_of_mem_take hx)
  have h3 := nn (k.drop i) fun x hx => h x (List.mem_of_mem_drop hx)
  omega

set_option maxHeartbeats 1000000 in
set_option maxRecDepth 100000 in
theorem join_c (S T : Nat → Prop) (r o : Nat) (l k : List Pr2) (many mk : Int) (w : World) (H : PR w S r l many) (K : PR w T o k mk) (hm : many + sumV k ≤ 1000000) (hl : l.length + k.length < 900) :
    Calls Try.prog 27 #[.pointer (some ⟨r, 0, none⟩), .pointer (some ⟨o, 0, none⟩)] w fun e w' => e = .returned (.tuple #[]) ∧ ∃ S', PR w' S' r (joinL l k) (many + sumV k) ∧ Chg S w w' ∧ New w S S' := by
  obtain ⟨v, h1, h2, _⟩ := K.ex
  have hks := K.small
  have hkv : ∀ x ∈ k, 0 ≤ x.val := fun x hx => (K.vals x hx).1
  have HC := Lib.hid (clone_c v k w (by omega) h2)
  obtain ⟨p, c, rfl, _⟩ := owns_row h2
  have c0 := h1.cell 0
  have HH := Lib.hid (And.intro H hkv)
  clear h1 h2 H K hkv
  go_enter Try.func27, Try.ntmps27
  go_wp2_with fail
  refine HC.out.mono ?_
  rintro e w1 ⟨v', rfl, o1, o2, o3⟩
  obtain ⟨p1, c1, rfl, _⟩ := owns_row o1
  have H0 := Lib.hid (And.intro (HH.out.1.below o3) (And.intro o1 (And.intro o2 o3)))
  clear o1 o2 o3
  go_wp2_with fail
  go_loopw [14] (fun s14 wr => ∃ i : Nat, i ≤ k.length ∧ s14 = .int .i64 i ∧ wr.ownsRow 0 58 2 (.slice p1 k.length c1) k.length (flat2 k) ∧ ∃ S', PR wr S' r (joinL l (k.take i)) (many + sumV (k.take i)) ∧ Chg S w wr ∧ New w S S' ∧ ∀ j, (Value.slice p1 k.length c1).ownBlock = some j → ¬ S' j) (fun s14 _ => k.length - (RowKit.intOf s14).toNat)
  case atStart =>
    refine ⟨0, Nat.zero_le _, rfl, H0.out.2.1, S, ?_, Chg.of H0.out.2.2.2, fun i hi => .inl hi, fun j hj hs => ?_⟩
    · have := H0.out.1
      simpa [joinL, sumV] using this
    · have h4 := H0.out.2.2.1 j hj
      have := HH.out.1.lt j hs
      omega
  case round =>
    obtain ⟨i, hi, rfl, hO, S', hP, hC, hN, hd⟩ := hrel
    by_cases hlt : i < k.length
    · have hlt1 : (i : Int) < k.length := by omega
      obtain ⟨p2, c2, e2, _, _, _, hR, _⟩ := owns_row hO
      injection e2 with e3 _ e5
      subst e3 e5
      obtain ⟨a, rfl, k0, k1⟩ := hR i hlt
      obtain ⟨x, hx⟩ : ∃ x, x = k[i] := ⟨_, rfl⟩
      rw [← hx] at k0 k1
      have hx0 : 0 ≤ x.val := by rw [hx]; exact HH.out.2 _ (List.getElem_mem hlt)
      have hw3 : IntKind.i64.wrap ((i : Int) + 1) = (i : Int) + 1 := by rw [IntKind.wrap_i64]; omega
      have hA : Below wr.heap.size wr (wr.alloc (.cells #[.int .i64 x.key, .int .i64 x.val] 58)) := (Below.refl _ _).alloc (Nat.le_refl _) _
      have hsn : sumV (k.take (i + 1)) = sumV (k.take i) + x.val := by rw [take_snoc hlt, sumV_snoc, hx]
      have hst := sumV_take HH.out.2 (i + 1)
      have hjl := joinL_len (k := k.take i) HH.out.1.sorted
      have htl : (k.take i).length ≤ k.length := by rw [List.length_take]; omega
      have HA := Lib.hid (add_c S' r (joinL l (k.take i)) x.key x.val (many + sumV (k.take i)) _ (hP.below hA) hx0 (by omega) (by omega))
      have HD := Lib.hid (And.intro hO (And.intro hC (And.intro hN (And.intro hd (And.intro hA (And.intro hx hsn))))))
      clear hO hP hC hN hd hA hx hsn hst hjl htl hR
      go_wp2_with fail
      refine HA.out.mono ?_
      rintro e w5 ⟨rfl, S2, g1, g2, g3⟩
      have HG := Lib.hid (And.intro g1 (And.intro g2 g3))
      clear g1 g2 g3
      go_wp2_with fail
      go_roundw
      case rel =>
        obtain ⟨hO, hC, hN, hd, hA, hx, hsn⟩ := HD.out
        obtain ⟨g1, g2, g3⟩ := HG.out
        have hsz := hA.size
        have hO2 := owns_chg (S := fun _ => False) (Chg.of hA) hO fun _ _ h => h
        refine ⟨i + 1, by omega, rfl, owns_chg g2 hO2 fun j hj => hd j hj, S2, ?_, hC.trans ((Chg.of hA).trans g2 fun j hj => .inl hj) fun j hj => ?_, fun j hj => ?_, fun j hj hs => ?_⟩
        · rw [take_snoc hlt, joinL_snoc, sumV_snoc, ← hx, ← Int.add_assoc]
          exact g1
        · exact hN j hj
        · rcases g3 j hj with c | c
          · exact hN j c
          · exact .inr (by have := hC.size; omega)
        · rcases g3 j hs with c | c
          · exact hd j hj c
          · have := (hO.lt j hj).2; omega
      case measure => simp only [RowKit.intOf]; omega
    · obtain rfl : i = k.length := by omega
      have hlt1 : ¬ (k.length : Int) < k.length := by omega
      have HD := Lib.hid (And.intro hP (And.intro hC hN))
      clear hO hP hC hN hd
      go_wp2_with fail
      refine bodyPost_end (results_none rfl _ _ _) rfl ?_
      obtain ⟨hP, hC, hN⟩ := HD.out
      rw [List.take_of_length_le (Nat.le_refl _)] at hP
      exact ⟨rfl, S', hP, hC, hN⟩
end Go.Proofs.Ytajklhlgakpgiaa
