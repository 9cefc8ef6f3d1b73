/-
  Functions as sorted lists of pairs: look, put, delete (plain); what stands in a world of one; changes within a set of blocks.
-/
import Derived.Test.YtfnnfgiflhpefaaDoorInsG
namespace Go.Proofs.YtfnnfgiflhpefaaDoor
open Go.RowKit

/-! ### lists -/
def look : List Pr2 → Int → Option Int
  | [], _ => none
  | x :: l, q => if x.key = q then some x.val else look l q
def insP (k v : Int) : List Pr2 → List Pr2
  | [] => [⟨k, v⟩]
  | x :: l => if x.key < k then x :: insP k v l else if x.key = k then ⟨k, v⟩ :: l else ⟨k, v⟩ :: x :: l
def delP (k : Int) : List Pr2 → List Pr2
  | [] => []
  | x :: l => if x.key = k then l else x :: delP k l
def SortP (l : List Pr2) : Prop := l.Pairwise fun a b => a.key < b.key
theorem SortP.two {l : List Pr2} (h : SortP l) : Sorted2 l := fun i j hi hj hij => List.pairwise_iff_getElem.1 h i j hi hj hij

theorem look_none_of {l : List Pr2} {q : Int} (h : ∀ x ∈ l, x.key ≠ q) : look l q = none := by
  induction l with
  | nil => rfl
  | cons x l ih =>
    simp only [look]
    rw [if_neg (h x (List.mem_cons_self ..))]
    exact ih fun y hy => h y (List.mem_cons_of_mem _ hy)
theorem look_app {A B : List Pr2} {q : Int} (h : ∀ x ∈ A, x.key ≠ q) : look (A ++ B) q = look B q := by
  induction A with
  | nil => rfl
  | cons x A ih =>
    simp only [List.cons_append, look]
    rw [if_neg (h x (List.mem_cons_self ..))]
    exact ih fun y hy => h y (List.mem_cons_of_mem _ hy)
theorem look_some_mem {l : List Pr2} {q v : Int} (h : look l q = some v) : ∃ x ∈ l, x.key = q ∧ x.val = v := by
  induction l with
  | nil => cases h
  | cons x l ih =>
    simp only [look] at h
    split at h
    · rename_i he
      exact ⟨x, List.mem_cons_self .., he, Option.some.inj h⟩
    · obtain ⟨y, hy, h1⟩ := ih h
      exact ⟨y, List.mem_cons_of_mem _ hy, h1⟩
theorem look_mem {l : List Pr2} (hs : SortP l) {x : Pr2} (hx : x ∈ l) : look l x.key = some x.val := by
  induction l with
  | nil => cases hx
  | cons y l ih =>
    have h1 := List.pairwise_cons.1 hs
    simp only [look]
    rcases List.mem_cons.1 hx with rfl | hx
    · rw [if_pos rfl]
    · have := h1.1 x hx
      rw [if_neg (by omega)]
      exact ih h1.2 hx

/-- Two sorted lists that tell the same are the same. -/
theorem sort_ext {l m : List Pr2} (hl : SortP l) (hm : SortP m) (h : ∀ q, look l q = look m q) : l = m := by
  induction l generalizing m with
  | nil =>
    cases m with
    | nil => rfl
    | cons y m =>
      have := h y.key
      simp [look] at this
  | cons x l ih =>
    cases m with
    | nil =>
      have := h x.key
      simp [look] at this
    | cons y m =>
      have h1 := List.pairwise_cons.1 hl
      have h2 := List.pairwise_cons.1 hm
      have hxy : x.key = y.key := by
        rcases Int.lt_trichotomy x.key y.key with c | c | c
        · have e := h x.key
          rw [look_none_of (l := y :: m) (q := x.key) (fun z hz => by
            rcases List.mem_cons.1 hz with rfl | hz
            · omega
            · have := h2.1 z hz
              omega)] at e
          simp [look] at e
        · exact c
        · have e := h y.key
          rw [look_none_of (l := x :: l) (q := y.key) (fun z hz => by
            rcases List.mem_cons.1 hz with rfl | hz
            · omega
            · have := h1.1 z hz
              omega)] at e
          simp [look] at e
      have hv : x.val = y.val := by
        have e := h x.key
        unfold look at e
        rw [if_pos rfl, if_pos hxy.symm] at e
        exact Option.some.inj e
      obtain ⟨k, v⟩ := x
      obtain ⟨k', v'⟩ := y
      obtain rfl : k = k' := hxy
      obtain rfl : v = v' := hv
      congr 1
      refine ih h1.2 h2.2 fun q => ?_
      by_cases hq : k = q
      · subst hq
        rw [look_none_of (fun z hz => by have := h1.1 z hz; simp at this; omega), look_none_of (fun z hz => by have := h2.1 z hz; simp at this; omega)]
      · have e := h q
        simp only [look] at e
        rw [if_neg hq, if_neg hq] at e
        exact e

theorem insP_mem {k v : Int} {l : List Pr2} {y : Pr2} (h : y ∈ insP k v l) : y = ⟨k, v⟩ ∨ y ∈ l := by
  induction l with
  | nil => simp [insP] at h; exact .inl h
  | cons x l ih =>
    simp only [insP] at h
    split at h
    · rcases List.mem_cons.1 h with rfl | h
      · exact .inr (List.mem_cons_self ..)
      · rcases ih h with h | h
        · exact .inl h
        · exact .inr (List.mem_cons_of_mem _ h)
    · split at h
      · rcases List.mem_cons.1 h with rfl | h
        · exact .inl rfl
        · exact .inr (List.mem_cons_of_mem _ h)
      · rcases List.mem_cons.1 h with rfl | h
        · exact .inl rfl
        · exact .inr h
theorem insP_sort {k v : Int} {l : List Pr2} (hs : SortP l) : SortP (insP k v l) := by
  induction l with
  | nil => exact List.pairwise_singleton ..
  | cons x l ih =>
    have h1 := List.pairwise_cons.1 hs
    simp only [insP]
    split
    · rename_i hlt
      refine List.pairwise_cons.2 ⟨fun y hy => ?_, ih h1.2⟩
      rcases insP_mem hy with rfl | hy
      · exact hlt
      · exact h1.1 y hy
    · split
      · rename_i he
        refine List.pairwise_cons.2 ⟨fun y hy => ?_, h1.2⟩
        have := h1.1 y hy
        simp only
        omega
      · rename_i hn hne
        refine List.pairwise_cons.2 ⟨fun y hy => ?_, hs⟩
        rcases List.mem_cons.1 hy with rfl | hy
        · simp only; omega
        · have := h1.1 y hy
          simp only
          omega
theorem look_insP {k v : Int} {l : List Pr2} (hs : SortP l) (q : Int) : look (insP k v l) q = if q = k then some v else look l q := by
  induction l with
  | nil =>
    simp only [insP, look]
    by_cases h : k = q
    · rw [if_pos h, if_pos h.symm]
    · rw [if_neg h, if_neg (Ne.symm h)]
  | cons x l ih =>
    have h1 := List.pairwise_cons.1 hs
    simp only [insP]
    split
    · rename_i hlt
      simp only [look]
      by_cases h : x.key = q
      · rw [if_pos h, if_pos h, if_neg (by omega)]
      · rw [if_neg h, if_neg h]
        exact ih h1.2
    · split
      · rename_i he
        simp only [look]
        by_cases h : k = q
        · rw [if_pos h, if_pos h.symm]
        · rw [if_neg h, if_neg (Ne.symm h), if_neg (by omega)]
      · simp only [look]
        by_cases h : k = q
        · rw [if_pos h, if_pos h.symm]
        · rw [if_neg h, if_neg (Ne.symm h)]
theorem insP_length {k v : Int} {l : List Pr2} (hs : SortP l) : (insP k v l).length = if (look l k).isSome then l.length else l.length + 1 := by
  induction l with
  | nil => rfl
  | cons x l ih =>
    have h1 := List.pairwise_cons.1 hs
    simp only [insP, look]
    split
    · rename_i hlt
      have e : (if x.key = k then some x.val else look l k) = look l k := if_neg (by omega)
      simp only [e, List.length_cons]
      rw [ih h1.2]
      split <;> rfl
    · split
      · rfl
      · rename_i hne
        have e : look l k = none := look_none_of (fun z hz => by have := h1.1 z hz; omega)
        simp [e]
theorem delP_mem {k : Int} {l : List Pr2} {y : Pr2} (h : y ∈ delP k l) : y ∈ l := by
  induction l with
  | nil => cases h
  | cons x l ih =>
    simp only [delP] at h
    split at h
    · exact List.mem_cons_of_mem _ h
    · rcases List.mem_cons.1 h with rfl | h
      · exact List.mem_cons_self ..
      · exact List.mem_cons_of_mem _ (ih h)
theorem delP_sort {k : Int} {l : List Pr2} (hs : SortP l) : SortP (delP k l) := by
  induction l with
  | nil => exact List.Pairwise.nil
  | cons x l ih =>
    have h1 := List.pairwise_cons.1 hs
    simp only [delP]
    split
    · exact h1.2
    · exact List.pairwise_cons.2 ⟨fun y hy => h1.1 y (delP_mem hy), ih h1.2⟩
theorem look_delP {k : Int} {l : List Pr2} (hs : SortP l) (q : Int) : look (delP k l) q = if q = k then none else look l q := by
  induction l with
  | nil => simp [delP, look]
  | cons x l ih =>
    have h1 := List.pairwise_cons.1 hs
    simp only [delP]
    split
    · rename_i he
      by_cases h : q = k
      · rw [if_pos h]
        exact look_none_of fun z hz => by have := h1.1 z hz; omega
      · rw [if_neg h]
        simp only [look]
        rw [if_neg (by omega)]
    · rename_i he
      simp only [look]
      by_cases h : x.key = q
      · rw [if_pos h, if_pos h, if_neg (by omega)]
      · rw [if_neg h, if_neg h]
        exact ih h1.2
theorem delP_length {k : Int} {l : List Pr2} : (delP k l).length = if (look l k).isSome then l.length - 1 else l.length := by
  induction l with
  | nil => rfl
  | cons x l ih =>
    simp only [delP, look]
    split
    · simp
    · simp only [List.length_cons]
      rw [ih]
      split
      · rename_i hsome
        have : l ≠ [] := by
          rintro rfl
          simp [look] at hsome
        have := List.length_pos_iff.2 this
        omega
      · rfl

/-! ### at a place that the search found -/
theorem lo_ne {l : List Pr2} {key : Int} {k : Nat} (hk : k ≤ l.length) (h : LoAt l key k) : ∀ x ∈ l.take k, x.key < key := by
  intro x hx
  obtain ⟨i, hi, rfl⟩ := List.mem_iff_getElem.1 hx
  rw [List.length_take] at hi
  rw [List.getElem_take]
  exact h i (by omega) (by omega)
theorem hi_ge {l : List Pr2} {key : Int} {k : Nat} (h : HiAt l key k) : ∀ x ∈ l.drop k, key ≤ x.key := by
  intro x hx
  obtain ⟨i, hi, rfl⟩ := List.mem_iff_getElem.1 hx
  rw [List.length_drop] at hi
  rw [List.getElem_drop]
  exact h (k + i) (by omega) (by omega)
theorem insP_app {k v : Int} {A B : List Pr2} (h : ∀ x ∈ A, x.key < k) : insP k v (A ++ B) = A ++ insP k v B := by
  induction A with
  | nil => rfl
  | cons x A ih =>
    simp only [List.cons_append, insP]
    rw [if_pos (h x (List.mem_cons_self ..)), ih fun y hy => h y (List.mem_cons_of_mem _ hy)]
theorem delP_app {k : Int} {A B : List Pr2} (h : ∀ x ∈ A, x.key < k) : delP k (A ++ B) = A ++ delP k B := by
  induction A with
  | nil => rfl
  | cons x A ih =>
    have := h x (List.mem_cons_self ..)
    simp only [List.cons_append, delP]
    rw [if_neg (by omega), ih fun y hy => h y (List.mem_cons_of_mem _ hy)]
theorem hit_split {l : List Pr2} {key : Int} {k : Nat} (h : hitAt l key k = true) : ∃ hk : k < l.length, (l[k]).key = key ∧ l = l.take k ++ l[k] :: l.drop (k + 1) := by
  have hk : k < l.length := by
    rcases Nat.lt_or_ge k l.length with c | c
    · exact c
    · rw [hit_end c] at h
      cases h
  refine ⟨hk, ?_, by rw [List.getElem_cons_drop hk, List.take_append_drop]⟩
  rw [hit_of hk] at h
  simpa using h
theorem hit_look {l : List Pr2} {key : Int} {k : Nat} (hk : k ≤ l.length) (hlo : LoAt l key k) (h : hitAt l key k = true) : ∃ hk : k < l.length, look l key = some (l[k]).val := by
  obtain ⟨hk', he, hsp⟩ := hit_split h
  refine ⟨hk', ?_⟩
  have e : look l key = look (l.take k ++ l[k] :: l.drop (k + 1)) key := by rw [← hsp]
  rw [e, look_app (fun x hx => by have := lo_ne hk hlo x hx; omega)]
  simp only [look]
  rw [if_pos he]
theorem miss_gt {l : List Pr2} {key : Int} {k : Nat} (hs : SortP l) (hhi : HiAt l key k) (h : hitAt l key k = false) : ∀ x ∈ l.drop k, key < x.key := by
  intro x hx
  have hge := hi_ge hhi x hx
  rcases Int.lt_or_eq_of_le hge with c | c
  · exact c
  · exfalso
    obtain ⟨i, hi, rfl⟩ := List.mem_iff_getElem.1 hx
    rw [List.length_drop] at hi
    rw [List.getElem_drop] at c
    have hkl : k < l.length := by omega
    rw [hit_of hkl] at h
    have hne : (l[k]).key ≠ key := by simpa using h
    have h0 := hhi k hkl (Nat.le_refl _)
    rcases Nat.eq_zero_or_pos i with rfl | hp
    · exact hne (by simpa using c.symm)
    · have := hs.two k (k + i) hkl (by omega) (by omega)
      omega
theorem miss_look {l : List Pr2} {key : Int} {k : Nat} (hs : SortP l) (hk : k ≤ l.length) (hlo : LoAt l key k) (hhi : HiAt l key k) (h : hitAt l key k = false) : look l key = none := by
  refine look_none_of fun x hx => ?_
  rw [← List.take_append_drop k l] at hx
  rcases List.mem_append.1 hx with c | c
  · have := lo_ne hk hlo x c; omega
  · have := miss_gt hs hhi h x c; omega
theorem insP_hit {l : List Pr2} {key v : Int} {k : Nat} (hk : k ≤ l.length) (hlo : LoAt l key k) (h : hitAt l key k = true) : insP key v l = l.take k ++ ⟨key, v⟩ :: l.drop (k + 1) := by
  obtain ⟨hk', he, hsp⟩ := hit_split h
  conv => lhs; rw [hsp]
  rw [insP_app (lo_ne hk hlo)]
  simp only [insP]
  rw [if_neg (by omega), if_pos he]
theorem insP_miss {l : List Pr2} {key v : Int} {k : Nat} (hs : SortP l) (hk : k ≤ l.length) (hlo : LoAt l key k) (hhi : HiAt l key k) (h : hitAt l key k = false) : insP key v l = putIn ⟨key, v⟩ k l := by
  conv => lhs; rw [← List.take_append_drop k l]
  rw [insP_app (lo_ne hk hlo)]
  unfold putIn
  congr 1
  have hgt := miss_gt hs hhi h
  cases hd : l.drop k with
  | nil => rfl
  | cons x B =>
    have := hgt x (by rw [hd]; exact List.mem_cons_self ..)
    simp only [insP]
    rw [if_neg (by omega), if_neg (by omega)]
theorem delP_hit {l : List Pr2} {key : Int} {k : Nat} (hk : k ≤ l.length) (hlo : LoAt l key k) (h : hitAt l key k = true) : delP key l = l.take k ++ l.drop (k + 1) := by
  obtain ⟨hk', he, hsp⟩ := hit_split h
  conv => lhs; rw [hsp]
  rw [delP_app (lo_ne hk hlo)]
  simp only [delP]
  rw [if_pos he]
theorem delP_none {l : List Pr2} {key : Int} (h : look l key = none) : delP key l = l := by
  induction l with
  | nil => rfl
  | cons x l ih =>
    simp only [look] at h
    split at h
    · cases h
    · rename_i hne
      simp only [delP]
      rw [if_neg hne, ih h]

/-! ### changes within a set of blocks -/
structure Chg (S : Nat → Prop) (w w' : World) : Prop where
  os : w'.os = w.os
  tape : w'.tape = w.tape
  output : w'.output = w.output
  size : w.heap.size ≤ w'.heap.size
  block : ∀ k, k < w.heap.size → ¬ S k → w'.heap[k]? = w.heap[k]?
section
variable {S S' : Nat → Prop} {w w' w1 w2 : World} {B : Nat}
theorem Chg.of (h : Below w.heap.size w w') : Chg S w w' := ⟨h.os, h.tape, h.output, h.size, fun k hk _ => h.block k hk⟩
theorem Chg.refl (S : Nat → Prop) (w : World) : Chg S w w := Chg.of (Below.refl _ _)
theorem Chg.mono (h : Chg S w w') (hs : ∀ k, k < w.heap.size → S k → S' k) : Chg S' w w' := ⟨h.os, h.tape, h.output, h.size, fun k hk hn => h.block k hk fun c => hn (hs k hk c)⟩
theorem Chg.trans (h : Chg S w w1) (k : Chg S' w1 w2) (hs : ∀ i, S' i → S i ∨ w.heap.size ≤ i) : Chg S w w2 :=
  ⟨k.os.trans h.os, k.tape.trans h.tape, k.output.trans h.output, Nat.le_trans h.size k.size, fun i hi hn =>
    (k.block i (Nat.lt_of_lt_of_le hi h.size) fun c => (hs i c).elim hn (fun c => absurd hi (by omega))).trans (h.block i hi hn)⟩
theorem Chg.below (h : Chg S w w') (hs : ∀ k, S k → B ≤ k) (hB : B ≤ w.heap.size) : Below B w w' :=
  ⟨h.os, h.tape, h.output, h.size, fun k hk => h.block k (by omega) fun c => by have := hs k c; omega⟩
theorem Chg.blk (h : Chg S w w') {g : Nat} {t : TypeId} {cs : Array Value} (hb : Blk w g t cs) (hg : ¬ S g) : Blk w' g t cs := (h.block g hb.lt hg).trans hb
theorem Chg.set_ (h : Chg S w w1) {b : Nat} (hb : S b) (i : Nat) (u : Value) : Chg S w (w1.setCell ⟨b, i, none⟩ u) :=
  h.trans (S' := fun k => k = b) ⟨rfl, rfl, rfl, by simp [World.setCell], fun k _ hne => Below.heap_setCell _ _ _ _ hne⟩ fun i hi => .inl (hi ▸ hb)
theorem Chg.grown {v : Value} (h : w.grownBy w' v.ownBlock) : Chg (fun k => v.ownBlock = some k) w w' := ⟨h.os, h.tape, h.output, h.size, fun k hk hn => h.block k hk fun c => hn c.symm⟩
theorem Chg.but {b : Nat} (h : But b w w') : Chg (fun k => k = b) w w' := ⟨h.os, h.tape, h.output, h.size, fun k hk hn => h.block k hk hn⟩
end
/-- A row that no change reaches. -/
theorem owns_chg {S : Nat → Prop} {w w' : World} {e : TypeId} {z n : Nat} {v : Value} {xs : List Value} (h : Chg S w w') (hw : w.ownsRow 0 e z v n xs) (hn : ∀ k, v.ownBlock = some k → ¬ S k) : w'.ownsRow 0 e z v n xs := by
  refine ⟨hw.1, ?_⟩
  rcases hw.2 with c | ⟨g, cap, cur, rfl, hb, hg, rest⟩
  · exact .inl c
  · exact .inr ⟨g, cap, cur, rfl, hb, (h.block g (lt_of_block hg) (hn g rfl)).trans hg, rest⟩
theorem owns_row {w : World} {l : List Pr2} {e : TypeId} {v : Value} {n : Nat} (h : w.ownsRow 0 e 2 v n (flat2 l)) : ∃ p c, v = .slice p n c ∧ l.length = n ∧ n ≤ c ∧ (n = 0 ∨ p ≠ none) ∧ RowAt w p l ∧ (c ≠ 0 → p ≠ none) := by
  have hl : l.length = n := by have := h.1; rw [flat2_length] at this; omega
  rcases h.2 with ⟨rfl, rfl⟩ | ⟨g, cap, cur, rfl, _, hg, hc, _, hs, ht⟩
  · exact ⟨none, 0, rfl, hl, Nat.le_refl _, .inl rfl, fun i hi => absurd hi (by omega), fun c => absurd rfl c⟩
  · refine ⟨some ⟨g, 0, none⟩, cap, rfl, hl, hc, .inr (by simp), fun i hi => ?_, fun _ => by simp⟩
    have hcell : ∀ j u, (flat2 l)[j]? = some u → w.cell? ⟨g, j, none⟩ = some u := by
      intro j u hj
      rw [cell_of_row w g j cur _ _ hg, ← Array.getElem?_toList]
      rw [← ht, List.getElem?_take] at hj
      split at hj
      · exact hj
      · cases hj
    have hfl : (flat2 l)[i * 2]? = some (.int .u64 (l[i]).key) ∧ (flat2 l)[i * 2 + 1]? = some (.int .u64 (l[i]).val) := by
      have h1 : flat2 l = flat2 (l.take i) ++ (.int .u64 (l[i]).key :: .int .u64 (l[i]).val :: flat2 (l.drop (i + 1))) := by
        conv => lhs; rw [← List.take_append_drop i l, ← List.getElem_cons_drop hi, flat2_app]
        rfl
      have h2 : (flat2 (l.take i)).length = i * 2 := by rw [flat2_length, List.length_take]; omega
      rw [h1]
      constructor
      · rw [List.getElem?_append_right (by omega), h2, Nat.sub_self]
        rfl
      · rw [List.getElem?_append_right (by omega), h2, show i * 2 + 1 - i * 2 = 1 by omega]
        rfl
    refine ⟨⟨g, 0, none⟩, rfl, ?_, ?_⟩
    · rw [Addr.add_lit, Nat.zero_add]
      exact hcell _ _ hfl.1
    · rw [Addr.add_lit]
      simp only [Nat.zero_add]
      exact hcell _ _ hfl.2
end Go.Proofs.YtfnnfgiflhpefaaDoor
