/-
  The plain law of amblernum.Sorted: what it gives is in its order, and holds each entry.
-/
import Derived.Test.YtacdbgoffepaaaaDoorSorted
namespace Go.Proofs.YtacdbgoffepaaaaDoor

def ins' (x : Ent3) : List Ent3 → List Ent3
  | [] => [x]
  | y :: l => if x.less y then x :: y :: l else y :: ins' x l
theorem ins_eq (x : Ent3) (l : List Ent3) : ins x l = ins' x l := by
  induction l with
  | nil => rfl
  | cons y l ih =>
    unfold ins' ins pos
    by_cases h : x.less y = true
    · simp [h]
    · simp only [h, if_false, Bool.false_eq_true]
      simp only [List.take_succ_cons, List.drop_succ_cons, List.cons_append]
      rw [← ih]; rfl
theorem mem_ins (x y : Ent3) (l : List Ent3) : y ∈ ins' x l ↔ y = x ∨ y ∈ l := by
  induction l with
  | nil => simp [ins']
  | cons z l ih =>
    unfold ins'
    split
    · simp
    · simp only [List.mem_cons, ih]
      constructor <;> (intro h; rcases h with h | h | h <;> simp [h])
theorem mem_sortTo (F : Nat → Ent3) (j : Nat) (y : Ent3) : y ∈ sortTo F j ↔ ∃ i, i < j ∧ y = F i := by
  induction j with
  | zero => simp [sortTo]
  | succ j ih =>
    rw [sortTo, ins_eq, mem_ins, ih]
    constructor
    · rintro (h | ⟨i, hi, h⟩)
      · exact ⟨j, by omega, h⟩
      · exact ⟨i, by omega, h⟩
    · rintro ⟨i, hi, h⟩
      by_cases e : i = j
      · subst e; exact Or.inl h
      · exact Or.inr ⟨i, by omega, h⟩
theorem less_flip (x y : Ent3) (h : x.less y = true) : y.less x = false := by
  unfold Ent3.less lessB at *
  simp only [Bool.or_eq_true, Bool.and_eq_true, decide_eq_true_eq, beq_iff_eq, Bool.or_eq_false_iff, Bool.and_eq_false_iff, decide_eq_false_iff_not, beq_eq_false_iff_ne] at *
  omega
theorem le_tr (x y z : Ent3) (h : y.less x = false) (k : z.less y = false) : z.less x = false := by
  unfold Ent3.less lessB at *
  simp only [Bool.or_eq_false_iff, Bool.and_eq_false_iff, decide_eq_false_iff_not, beq_eq_false_iff_ne] at *
  omega
theorem pw_ins (x : Ent3) (l : List Ent3) (h : l.Pairwise fun a b => b.less a = false) : (ins' x l).Pairwise fun a b => b.less a = false := by
  induction l with
  | nil => simp [ins']
  | cons y l ih =>
    rw [List.pairwise_cons] at h
    unfold ins'
    split
    · rename_i hx
      refine List.pairwise_cons.2 ⟨fun z hz => ?_, List.pairwise_cons.2 h⟩
      rcases List.mem_cons.1 hz with rfl | hz
      · exact less_flip _ _ hx
      · exact le_tr _ _ _ (less_flip _ _ hx) (h.1 z hz)
    · rename_i hx
      refine List.pairwise_cons.2 ⟨fun z hz => ?_, ih h.2⟩
      rcases (mem_ins x z l).1 hz with rfl | hz
      · simpa using hx
      · exact h.1 z hz
theorem pw_sortTo (F : Nat → Ent3) (j : Nat) : (sortTo F j).Pairwise fun a b => b.less a = false := by
  induction j with
  | zero => exact List.Pairwise.nil
  | succ j ih => rw [sortTo, ins_eq]; exact pw_ins _ _ ih
/-- The entry at a place of the sorted list. -/
def at3 (F : Nat → Ent3) (n i : Nat) : Ent3 := (sortTo F n).getD i ⟨0, 0, 0⟩
theorem at3_get (F : Nat → Ent3) (n i : Nat) (hi : i < n) : (sortTo F n)[i]'(by rw [sortTo_length]; exact hi) = at3 F n i := by
  unfold at3
  rw [List.getD_eq_getElem?_getD, List.getElem?_eq_getElem (by rw [sortTo_length]; exact hi)]
  rfl
theorem at3_le (F : Nat → Ent3) (n i : Nat) (hi : i + 1 < n) : (at3 F n (i + 1)).less (at3 F n i) = false := by
  rw [← at3_get F n (i + 1) hi, ← at3_get F n i (by omega)]
  exact List.pairwise_iff_getElem.1 (pw_sortTo F n) i (i + 1) _ _ (by omega)
theorem at3_ok (F : Nat → Ent3) (n i : Nat) (hi : i < n) (hF : ∀ i, i < n → (F i).ok) : (at3 F n i).ok := by
  rw [← at3_get F n i hi]
  obtain ⟨k, hk, e⟩ := (mem_sortTo F n _).1 (List.getElem_mem (l := sortTo F n) (by rw [sortTo_length]; exact hi))
  rw [e]; exact hF k hk
theorem at3_last (F : Nat → Ent3) (n i : Nat) (hi : i < n) : (at3 F n (n - 1)).less (F i) = false := by
  obtain ⟨k, hk, e⟩ := List.getElem_of_mem ((mem_sortTo F n (F i)).2 ⟨i, hi, rfl⟩)
  have hkn : k < n := by rw [sortTo_length] at hk; exact hk
  have hki : F i = at3 F n k := by rw [← at3_get F n k hkn]; exact e.symm
  rw [hki]
  by_cases h : k = n - 1
  · subst h
    simp [Ent3.less, lessB]
  · rw [← at3_get F n (n - 1) (by omega), ← at3_get F n k hkn]
    exact List.pairwise_iff_getElem.1 (pw_sortTo F n) k (n - 1) _ _ (by omega)
end Go.Proofs.YtacdbgoffepaaaaDoor
