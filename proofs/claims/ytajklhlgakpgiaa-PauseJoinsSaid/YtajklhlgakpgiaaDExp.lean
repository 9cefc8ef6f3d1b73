/-
  A record's rows, spread out into the reference's list of numbers. Plain theorems.
-/
import Derived.Test.YtajklhlgakpgiaaDNote
import Derived.Test.YtajklhlgakpgiaaDOrder
namespace Go.Proofs.Ytajklhlgakpgiaa
open Go.RowKit Go.Lib

def expand : List Pr2 → List Int
  | [] => []
  | x :: l => List.replicate x.val.toNat x.key ++ expand l
def Pos (l : List Pr2) : Prop := ∀ x ∈ l, 1 ≤ x.val
theorem Pos.tl {x : Pr2} {l : List Pr2} (h : Pos (x :: l)) : Pos l := fun y hy => h y (List.mem_cons_of_mem _ hy)
theorem insR_rep {n k : Int} (h : k ≤ n) (rest : List Int) : ∀ m : Nat, insR n (List.replicate m k ++ rest) = List.replicate m k ++ insR n rest
  | 0 => rfl
  | m + 1 => by
    rw [List.replicate_succ, List.cons_append, insR, if_pos h, insR_rep h rest m]
    rfl
theorem expand_mem {l : List Pr2} {y : Int} (h : y ∈ expand l) : ∃ x ∈ l, y = x.key := by
  induction l with
  | nil => cases h
  | cons x l ih =>
    rcases List.mem_append.1 h with h | h
    · exact ⟨x, List.mem_cons_self .., (List.mem_replicate.1 h).2⟩
    · obtain ⟨z, hz, e⟩ := ih h
      exact ⟨z, List.mem_cons_of_mem _ hz, e⟩
theorem insR_front {n : Int} {L : List Int} (h : ∀ y ∈ L, n < y) : insR n L = n :: L := by
  cases L with
  | nil => rfl
  | cons y L => rw [insR, if_neg (by have := h y (List.mem_cons_self ..); omega)]
theorem expand_ins {n : Int} {l : List Pr2} (hs : SortP l) (hp : Pos l) : expand (addL n 1 l) = insR n (expand l) := by
  induction l with
  | nil => rfl
  | cons x l ih =>
    have hs2 : SortP l := (List.pairwise_cons.1 hs).2
    have hx := (List.pairwise_cons.1 hs).1
    have h1 := hp x (List.mem_cons_self ..)
    have ih := ih hs2 hp.tl
    unfold addL at ih ⊢
    simp only [insP, look]
    by_cases h : x.key < n
    · rw [if_pos h, if_neg (by omega : ¬ x.key = n)]
      show List.replicate _ _ ++ expand _ = insR n (List.replicate _ _ ++ expand l)
      rw [ih, insR_rep (by omega)]
    · rw [if_neg h]
      by_cases he : x.key = n
      · rw [if_pos he, if_pos he]
        show List.replicate (x.val + 1).toNat n ++ expand l = insR n (List.replicate _ _ ++ expand l)
        rw [he, insR_rep (Int.le_refl _), insR_front (fun y hy => by obtain ⟨z, hz, rfl⟩ := expand_mem hy; have := hx z hz; omega)]
        rw [show (x.val + 1).toNat = x.val.toNat + 1 by omega, List.replicate_succ']
        simp
      · rw [if_neg he, if_neg he]
        have hn : look l n = none := look_none_of fun z hz => by have := hx z hz; omega
        rw [hn]
        show List.replicate 1 n ++ expand (x :: l) = insR n (expand (x :: l))
        rw [insR_front (fun y hy => by
          obtain ⟨z, hz, rfl⟩ := expand_mem hy
          rcases List.mem_cons.1 hz with rfl | hz
          · omega
          · have := hx z hz; omega)]
        rfl
theorem addL_pos {n : Int} {l : List Pr2} (h : Pos l) : Pos (addL n 1 l) := by
  have key : ∀ (l : List Pr2) (v : Int), Pos l → 1 ≤ v → Pos (insP n v l) := by
    intro l
    induction l with
    | nil => intro v _ hv x hx; rw [insP, List.mem_singleton] at hx; subst hx; exact hv
    | cons y l ih =>
      intro v h hv x hx
      simp only [insP] at hx
      split at hx
      · rcases List.mem_cons.1 hx with rfl | hx
        · exact h _ (List.mem_cons_self ..)
        · exact ih v h.tl hv x hx
      · split at hx
        · rcases List.mem_cons.1 hx with rfl | hx
          · exact hv
          · exact h x (List.mem_cons_of_mem _ hx)
        · rcases List.mem_cons.1 hx with rfl | hx
          · exact hv
          · exact h x hx
  refine key l _ h ?_
  cases hl : look l n with
  | none => decide
  | some v =>
    have : ∃ x ∈ l, x.val = v := by
      clear h key
      induction l with
      | nil => cases hl
      | cons y l ih =>
        simp only [look] at hl
        split at hl
        · exact ⟨y, List.mem_cons_self .., Option.some.inj hl⟩
        · obtain ⟨x, hx, e⟩ := ih hl
          exact ⟨x, List.mem_cons_of_mem _ hx, e⟩
    obtain ⟨x, hx, rfl⟩ := this
    have := h x hx
    show 1 ≤ x.val + 1
    omega
theorem noteL_pos (xs : List Int) : Pos (noteL xs) := by
  have : ∀ (xs : List Int) (l : List Pr2), Pos l → Pos (xs.foldl (fun l n => addL (clampP n) 1 l) l) := by
    intro xs
    induction xs with
    | nil => intro l h; exact h
    | cons x xs ih => intro l h; exact ih _ (addL_pos h)
  exact this xs [] fun x hx => by cases hx
def refL (xs : List Int) : List Int := xs.foldl (fun L n => insR (clampP n) L) []
theorem refL_snoc (xs : List Int) (n : Int) : refL (xs ++ [n]) = insR (clampP n) (refL xs) := by simp [refL]
theorem noteL_sort (xs : List Int) : SortP (noteL xs) := (fold_notes xs [] List.Pairwise.nil).1
theorem refL_expand (xs : List Int) : refL xs = expand (noteL xs) := by
  have : ∀ (xs : List Int) (l : List Pr2), SortP l → Pos l → xs.foldl (fun L n => insR (clampP n) L) (expand l) = expand (xs.foldl (fun l n => addL (clampP n) 1 l) l) := by
    intro xs
    induction xs with
    | nil => intro l _ _; rfl
    | cons x xs ih =>
      intro l h1 h2
      rw [List.foldl_cons, List.foldl_cons, ← expand_ins h1 h2]
      exact ih _ (addL_sort h1) (addL_pos h2)
  exact this xs [] List.Pairwise.nil fun x hx => by cases hx
theorem expand_len {l : List Pr2} (hp : Pos l) : ((expand l).length : Int) = sumV l := by
  induction l with
  | nil => rfl
  | cons x l ih =>
    have h1 := hp x (List.mem_cons_self ..)
    have ih := ih hp.tl
    show ((List.replicate _ _ ++ expand l).length : Int) = x.val + sumV l
    rw [List.length_append, List.length_replicate]
    omega
theorem noteL_CN (xs : List Int) : CN xs (noteL xs) := by
  have : ∀ (ys xs : List Int) (l : List Pr2), CN xs l → CN (xs ++ ys) (ys.foldl (fun l n => addL (clampP n) 1 l) l) := by
    intro ys
    induction ys with
    | nil => intro xs l h; simpa using h
    | cons y ys ih => intro xs l h; have := ih (xs ++ [y]) _ (h.note y); simpa using this
  simpa [noteL] using this xs [] [] CN.nil
theorem refL_len (xs : List Int) : (refL xs).length = xs.length := by
  have h1 := expand_len (noteL_pos xs)
  rw [(noteL_CN xs).sum] at h1
  rw [refL_expand]
  omega

/-! ### the sum -/
def sumR : Int → List Int → Int
  | s, [] => s
  | s, n :: L => sumR (if 1099511627776 < s + n then 1099511627776 else s + n) L
theorem sumR_top {L : List Int} (h : ∀ n ∈ L, 0 ≤ n) : sumR 1099511627776 L = 1099511627776 := by
  induction L with
  | nil => rfl
  | cons n L ih =>
    have h0 := h n (List.mem_cons_self ..)
    rw [sumR]
    split
    · exact ih fun x hx => h x (List.mem_cons_of_mem _ hx)
    · rw [show (1099511627776 : Int) + n = 1099511627776 by omega]
      exact ih fun x hx => h x (List.mem_cons_of_mem _ hx)
theorem sumR_rep {k : Int} (hk : 0 ≤ k) (rest : List Int) (hr : ∀ n ∈ rest, 0 ≤ n) : ∀ (m : Nat) (s : Int), 0 ≤ s → s ≤ 1099511627776 → sumR s (List.replicate m k ++ rest) = if 1099511627776 < s + k * m then 1099511627776 else sumR (s + k * m) rest
  | 0, s, h0, h1 => by simp; omega
  | m + 1, s, h0, h1 => by
    rw [List.replicate_succ, List.cons_append, sumR]
    have e : k * ((m + 1 : Nat) : Int) = k * (m : Int) + k := by rw [Int.natCast_add, Int.mul_add]; simp
    have hkm : 0 ≤ k * (m : Int) := Int.mul_nonneg hk (by omega)
    rw [e]
    split
    · rw [if_pos (by omega)]
      exact sumR_top fun n hn => by
        rcases List.mem_append.1 hn with h | h
        · rw [(List.mem_replicate.1 h).2]; exact hk
        · exact hr n h
    · rw [sumR_rep hk rest hr m _ (by omega) (by omega)]
      rw [show s + k + k * (m : Int) = s + (k * (m : Int) + k) by omega]
theorem sum_law {l : List Pr2} (hK : KB l) (hp : Pos l) : ∀ s, 0 ≤ s → s ≤ 1099511627776 → sumR s (expand l) = sumFrom s l := by
  induction l with
  | nil => intro s _ _; rfl
  | cons x l ih =>
    intro s h0 h1
    have hk := hK x (List.mem_cons_self ..)
    have hv := hp x (List.mem_cons_self ..)
    have hm : ((x.val.toNat : Nat) : Int) = x.val := by omega
    show sumR s (List.replicate _ _ ++ expand l) = _
    rw [sumR_rep hk.1 _ (fun n hn => by obtain ⟨z, hz, rfl⟩ := expand_mem hn; exact (hK z (List.mem_cons_of_mem _ hz)).1) _ _ h0 h1, hm, sumFrom]
    have hq : (0 < x.key ∧ (1099511627776 - s) / x.key < x.val) ↔ 1099511627776 < s + x.key * x.val := by
      constructor
      · rintro ⟨a, b⟩
        have := Int.ediv_lt_iff_lt_mul a |>.1 b
        rw [Int.mul_comm] at this
        omega
      · intro h
        have ha : 0 < x.key := by
          rcases Int.lt_or_eq_of_le hk.1 with h' | h'
          · exact h'
          · rw [← h', Int.zero_mul] at h; omega
        refine ⟨ha, (Int.ediv_lt_iff_lt_mul ha).2 ?_⟩
        rw [Int.mul_comm]
        omega
    by_cases hc : 1099511627776 < s + x.key * x.val
    · rw [if_pos hc, if_pos (hq.2 hc)]
    · rw [if_neg hc, if_neg (fun c => hc (hq.1 c))]
      have := Int.mul_nonneg hk.1 (by omega : 0 ≤ x.val)
      exact ih (fun y hy => hK y (List.mem_cons_of_mem _ hy)) hp.tl _ (by omega) (by omega)

/-! ### how many are greater -/
def aboveP (n : Int) : List Pr2 → Int
  | [] => 0
  | x :: l => (if n < x.key then x.val else 0) + aboveP n l
def aboveR (n : Int) (L : List Int) : Nat := L.countP fun x => decide (n < x)
theorem above_law {n : Int} {l : List Pr2} (hp : Pos l) : (aboveR n (expand l) : Int) = aboveP n l := by
  induction l with
  | nil => rfl
  | cons x l ih =>
    have hv := hp x (List.mem_cons_self ..)
    have ih := ih hp.tl
    have h1 : aboveR n (expand (x :: l)) = (if n < x.key then x.val.toNat else 0) + aboveR n (expand l) := by
      show List.countP _ (List.replicate _ _ ++ expand l) = _
      rw [List.countP_append, List.countP_replicate]
      simp [aboveR]
    rw [h1, aboveP]
    split <;> omega

/-! ### the number at a rank -/
theorem at_law {l : List Pr2} (hp : Pos l) : ∀ k : Nat, 1 ≤ k → k ≤ (expand l).length → ∃ y, (expand l)[k - 1]? = some y ∧ atL k l = floatOfInt .f64 y := by
  induction l with
  | nil => intro k h h2; exact absurd h2 (by simp [expand]; omega)
  | cons x l ih =>
    intro k h h2
    have hv := hp x (List.mem_cons_self ..)
    rw [atL]
    by_cases hk : (k : Int) - x.val ≤ 0
    · rw [if_pos hk]
      refine ⟨x.key, ?_, rfl⟩
      show (List.replicate _ _ ++ expand l)[k - 1]? = _
      rw [List.getElem?_append_left (by rw [List.length_replicate]; omega), List.getElem?_replicate, if_pos (by omega)]
    · rw [if_neg hk]
      have hl : (expand (x :: l)).length = x.val.toNat + (expand l).length := by
        show (List.replicate _ _ ++ expand l).length = _
        rw [List.length_append, List.length_replicate]
      obtain ⟨y, h3, h4⟩ := ih hp.tl (k - x.val.toNat) (by omega) (by omega)
      refine ⟨y, ?_, ?_⟩
      · show (List.replicate _ _ ++ expand l)[k - 1]? = _
        rw [List.getElem?_append_right (by rw [List.length_replicate]; omega), List.length_replicate, ← h3]
        congr 1
        omega
      · rw [← h4]
        congr 1
        omega

/-! ### the rows -/
def rleS (acc : List Pr2) (n : Int) : List Pr2 := match acc.getLast? with | some x => if x.key = n then acc.dropLast ++ [⟨n, x.val + 1⟩] else acc ++ [⟨n, 1⟩] | none => [⟨n, 1⟩]
def rle (L : List Int) : List Pr2 := L.foldl rleS []
theorem rle_snoc (L : List Int) (n : Int) : rle (L ++ [n]) = rleS (rle L) n := by simp [rle]
theorem rleS_same (acc : List Pr2) (k v : Int) : rleS (acc ++ [⟨k, v⟩]) k = acc ++ [⟨k, v + 1⟩] := by simp [rleS]
theorem rleS_new (acc : List Pr2) (k : Int) (h : ∀ x ∈ acc, x.key ≠ k) : rleS acc k = acc ++ [⟨k, 1⟩] := by
  unfold rleS
  cases hl : acc.getLast? with
  | none => rw [List.getLast?_eq_none_iff.1 hl]; rfl
  | some x => simp only; rw [if_neg (h x (List.mem_of_getLast? hl))]
theorem rle_rep (acc : List Pr2) (k v : Int) : ∀ m : Nat, (List.replicate m k).foldl rleS (acc ++ [⟨k, v⟩]) = acc ++ [⟨k, v + m⟩]
  | 0 => by simp
  | m + 1 => by
    rw [List.replicate_succ, List.foldl_cons, rleS_same, rle_rep acc k (v + 1) m]
    rw [show v + 1 + (m : Int) = v + ((m + 1 : Nat) : Int) by omega]
theorem rle_fold {l : List Pr2} (hs : SortP l) (hp : Pos l) : ∀ acc : List Pr2, (∀ x ∈ acc, ∀ y ∈ l, x.key < y.key) → (expand l).foldl rleS acc = acc ++ l := by
  induction l with
  | nil => intro acc _; simp [expand]
  | cons x l ih =>
    intro acc h
    have hv := hp x (List.mem_cons_self ..)
    have hx := (List.pairwise_cons.1 hs).1
    show (List.replicate _ _ ++ expand l).foldl rleS acc = _
    obtain ⟨m, hm⟩ : ∃ m : Nat, x.val.toNat = m + 1 := ⟨x.val.toNat - 1, by omega⟩
    rw [List.foldl_append, hm, List.replicate_succ, List.foldl_cons, rleS_new acc _ (fun y hy => by have := h y hy x (List.mem_cons_self ..); omega), rle_rep]
    rw [show (1 : Int) + (m : Int) = x.val by omega]
    rw [ih (List.pairwise_cons.1 hs).2 hp.tl]
    · simp
    · intro y hy z hz
      rcases List.mem_append.1 hy with hy | hy
      · exact h y hy z (List.mem_cons_of_mem _ hz)
      · rw [List.mem_singleton.1 hy]; exact hx z hz
theorem rows_law {l : List Pr2} (hs : SortP l) (hp : Pos l) : rle (expand l) = l := by
  have := rle_fold hs hp [] (fun x hx => by cases hx)
  simpa [rle] using this
end Go.Proofs.Ytajklhlgakpgiaa
