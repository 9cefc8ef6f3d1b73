/-
  The keys that aren't the same in two sorted lists: plain law.
-/
import Derived.Test.YtfnnfgiflhpefaaDoorMadeW
namespace Go.Proofs.YtfnnfgiflhpefaaDoor
open Go.RowKit Go.Lib

def SortI (l : List Int) : Prop := l.Pairwise (· < ·)
theorem sortI_ext {l m : List Int} (hl : SortI l) (hm : SortI m) (h : ∀ q, q ∈ l ↔ q ∈ m) : l = m := by
  induction l generalizing m with
  | nil =>
    cases m with
    | nil => rfl
    | cons y m => exact absurd ((h y).2 (List.mem_cons_self ..)) (by simp)
  | cons x l ih =>
    cases m with
    | nil => exact absurd ((h x).1 (List.mem_cons_self ..)) (by simp)
    | cons y m =>
      have hxl := (List.pairwise_cons.1 hl).1
      have hym := (List.pairwise_cons.1 hm).1
      have hxy : x = y := by
        rcases List.mem_cons.1 ((h x).1 (List.mem_cons_self ..)) with c | c
        · exact c
        · rcases List.mem_cons.1 ((h y).2 (List.mem_cons_self ..)) with d | d
          · exact d.symm
          · have := hym x c; have := hxl y d; omega
      subst hxy
      congr 1
      refine ih (List.pairwise_cons.1 hl).2 (List.pairwise_cons.1 hm).2 fun q => ?_
      constructor
      · intro hq
        rcases List.mem_cons.1 ((h q).1 (List.mem_cons_of_mem _ hq)) with c | c
        · have := hxl q hq; omega
        · exact c
      · intro hq
        rcases List.mem_cons.1 ((h q).2 (List.mem_cons_of_mem _ hq)) with c | c
        · have := hym q hq; omega
        · exact c
theorem look_low {l : List Pr2} {q : Int} (h : ∀ x ∈ l, q < x.key) : look l q = none := look_none_of fun x hx e => by have := h x hx; omega
theorem sort_tail {x : Pr2} {l : List Pr2} (h : SortP (x :: l)) : SortP l ∧ ∀ y ∈ l, x.key < y.key := ⟨(List.pairwise_cons.1 h).2, (List.pairwise_cons.1 h).1⟩

theorem diffP_spec (l k : List Pr2) (hl : SortP l) (hk : SortP k) : SortI (diffP l k) ∧ (∀ q, q ∈ diffP l k ↔ look l q ≠ look k q) := by
  have low : ∀ (b : Int) (l k : List Pr2), (∀ x ∈ l, b < x.key) → (∀ x ∈ k, b < x.key) → (∀ q, q ∈ diffP l k ↔ look l q ≠ look k q) → ∀ q ∈ diffP l k, b < q := by
    intro b l k h1 h2 h3 q hq
    refine Classical.byContradiction fun hn => (h3 q).1 hq ?_
    rw [look_low (fun x hx => by have := h1 x hx; omega), look_low (fun x hx => by have := h2 x hx; omega)]
  induction l, k using diffP.induct with
  | case1 => simp [diffP, SortI, look]
  | case2 x l ih =>
    obtain ⟨t1, t2⟩ := sort_tail hl
    obtain ⟨i1, i2⟩ := ih t1 hk
    have h2 : ∀ q, q ∈ diffP (x :: l) [] ↔ look (x :: l) q ≠ look [] q := fun q => by
      simp only [diffP, List.mem_cons, i2, look]
      by_cases hq : x.key = q
      · simp [hq]
      · rw [if_neg hq]; have hq' : ¬ q = x.key := fun e => hq e.symm; simp [hq']
    refine ⟨?_, h2⟩
    simp only [diffP]
    exact List.pairwise_cons.2 ⟨low x.key l [] t2 (fun x hx => by cases hx) i2, i1⟩
  | case3 y k ih =>
    obtain ⟨t1, t2⟩ := sort_tail hk
    obtain ⟨i1, i2⟩ := ih hl t1
    have h2 : ∀ q, q ∈ diffP [] (y :: k) ↔ look [] q ≠ look (y :: k) q := fun q => by
      simp only [diffP, List.mem_cons, i2, look]
      by_cases hq : y.key = q
      · simp [hq]
      · rw [if_neg hq]; have hq' : ¬ q = y.key := fun e => hq e.symm; simp [hq']
    refine ⟨?_, h2⟩
    simp only [diffP]
    exact List.pairwise_cons.2 ⟨low y.key [] k (fun x hx => by cases hx) t2 i2, i1⟩
  | case4 x l y k hlt ih =>
    obtain ⟨t1, t2⟩ := sort_tail hl
    obtain ⟨u1, u2⟩ := sort_tail hk
    obtain ⟨i1, i2⟩ := ih t1 hk
    have hyk : ∀ z ∈ y :: k, x.key < z.key := fun z hz => by
      rcases List.mem_cons.1 hz with rfl | hz
      · exact hlt
      · have := u2 z hz; omega
    rw [diffP.eq_4, if_pos hlt]
    refine ⟨List.pairwise_cons.2 ⟨low x.key l (y :: k) t2 hyk i2, i1⟩, fun q => ?_⟩
    rw [List.mem_cons, i2]
    by_cases hq : x.key = q
    · subst hq
      rw [look_low (l := y :: k) hyk, look_low (l := l) t2]
      simp [look]
    · rw [show look (x :: l) q = look l q by simp only [look]; rw [if_neg hq]]
      have hq' : ¬ q = x.key := fun e => hq e.symm; simp [hq']
  | case5 x l y k hlt hgt ih =>
    obtain ⟨t1, t2⟩ := sort_tail hl
    obtain ⟨u1, u2⟩ := sort_tail hk
    obtain ⟨i1, i2⟩ := ih hl u1
    have hxl : ∀ z ∈ x :: l, y.key < z.key := fun z hz => by
      rcases List.mem_cons.1 hz with rfl | hz
      · exact hgt
      · have := t2 z hz; omega
    rw [diffP.eq_4, if_neg hlt, if_pos hgt]
    refine ⟨List.pairwise_cons.2 ⟨low y.key (x :: l) k hxl u2 i2, i1⟩, fun q => ?_⟩
    rw [List.mem_cons, i2]
    by_cases hq : y.key = q
    · subst hq
      rw [look_low (l := x :: l) hxl, look_low (l := k) u2]
      simp [look]
    · rw [show look (y :: k) q = look k q by simp only [look]; rw [if_neg hq]]
      have hq' : ¬ q = y.key := fun e => hq e.symm; simp [hq']
  | case6 x l y k hlt hgt hne ih =>
    obtain ⟨t1, t2⟩ := sort_tail hl
    obtain ⟨u1, u2⟩ := sort_tail hk
    obtain ⟨i1, i2⟩ := ih t1 u1
    have hxy : x.key = y.key := by omega
    rw [diffP.eq_4, if_neg hlt, if_neg hgt, if_pos hne]
    refine ⟨List.pairwise_cons.2 ⟨low x.key l k t2 (fun z hz => by have := u2 z hz; omega) i2, i1⟩, fun q => ?_⟩
    rw [List.mem_cons, i2]
    simp only [look]
    rw [← hxy]
    by_cases hq : x.key = q
    · rw [if_pos hq, if_pos hq]
      simp [hq, hne]
    · rw [if_neg hq, if_neg hq]
      have hq' : ¬ q = x.key := fun e => hq e.symm; simp [hq']
  | case7 x l y k hlt hgt hne ih =>
    obtain ⟨t1, t2⟩ := sort_tail hl
    obtain ⟨u1, u2⟩ := sort_tail hk
    obtain ⟨i1, i2⟩ := ih t1 u1
    have hxy : x.key = y.key := by omega
    rw [diffP.eq_4, if_neg hlt, if_neg hgt, if_neg hne]
    refine ⟨i1, fun q => ?_⟩
    rw [i2]
    simp only [look]
    rw [← hxy]
    have hv : x.val = y.val := by simpa using hne
    by_cases hq : x.key = q
    · rw [if_pos hq, if_pos hq, hv, look_low (l := l) (fun z hz => by have := t2 z hz; omega), look_low (l := k) (fun z hz => by have := u2 z hz; omega)]
      simp
    · rw [if_neg hq, if_neg hq]
theorem keys_sort {s : List Pr2} (h : SortP s) : SortI (keysR s) := List.pairwise_map.2 h
theorem mem_keys_iff {s : List Pr2} {q : Int} : q ∈ keysR s ↔ (look s q).isSome = true := by
  constructor
  · intro hq
    cases hn : look s q with
    | some v => rfl
    | none =>
      obtain ⟨x, hx, e⟩ := List.mem_map.1 hq
      exact absurd e (none_all hn x hx)
  · intro h
    exact mem_keys fun hn => by rw [hn] at h; cases h
theorem diff_meet {l k rl rk s : List Pr2} (h1 : Rel l rl) (h2 : Rel k rk) (hs : SortP s) (hm : ∀ q, (look s q).isSome = true ↔ look rl q ≠ look rk q) : keysR s = diffP l k := by
  obtain ⟨d1, d2⟩ := diffP_spec l k h1.sort h2.sort
  refine sortI_ext (keys_sort hs) d1 fun q => ?_
  rw [mem_keys_iff, hm, d2, h1.look_, h2.look_]
theorem diff_back {l k : List Pr2} (h1 : SortP l) (h2 : SortP k) : diffP k l = diffP l k := by
  obtain ⟨d1, d2⟩ := diffP_spec l k h1 h2
  obtain ⟨e1, e2⟩ := diffP_spec k l h2 h1
  refine sortI_ext e1 d1 fun q => ?_
  rw [e2, d2]
  exact ⟨fun h e => h e.symm, fun h e => h e.symm⟩
theorem diff_none {l k : List Pr2} (h1 : SortP l) (h2 : SortP k) (h : diffP l k = []) : l = k := by
  obtain ⟨d1, d2⟩ := diffP_spec l k h1 h2
  refine sort_ext h1 h2 fun q => ?_
  refine Classical.byContradiction fun hn => ?_
  have := (d2 q).2 hn
  rw [h] at this
  cases this
end Go.Proofs.YtfnnfgiflhpefaaDoor
