/-
  Three floats as an argument; texts tell forms (plain).
-/
import Derived.Test.YtnakfnkmdiekhaaDoorText
import Derived.Test.YtnakfnkmdiekhaaDoorRow16
import Derived.OpenShut
import Derived.Lib.SmallJoins
namespace Go.Proofs.YtnakfnkmdiekhaaDoor
open Go.RowKit Ieee Go.ChangeShapes Go.WideShapes

theorem hexD_inj (a b : Nat) (ha : a < 16) (hb : b < 16) (h : hexD a = hexD b) : a = b := by
  have h2 : (List.range 16).all (fun a => (List.range 16).all fun b => !(hexD a == hexD b) || a == b) = true := by decide +kernel
  have h3 := List.all_eq_true.1 (List.all_eq_true.1 h2 a (List.mem_range.2 ha)) b (List.mem_range.2 hb)
  simpa [h] using h3
theorem digits_eq (u v : Nat) : ∀ n, (∀ j, j < n → u / 16 ^ j % 16 = v / 16 ^ j % 16) → u % 16 ^ n = v % 16 ^ n
  | 0, _ => by simp [Nat.mod_one]
  | n + 1, h => by
    rw [Nat.mod_pow_succ, Nat.mod_pow_succ, digits_eq u v n (fun j hj => h j (by omega)), h n (by omega)]
theorem hexStr_inj (u v : Nat) (hu : u < 18446744073709551616) (hv : v < 18446744073709551616) (h : hexStr u 16 = hexStr v 16) : u = v := by
  have hl : (List.range 16).map (fun i => hexD (u / 16 ^ (16 - 1 - i) % 16)) = (List.range 16).map (fun i => hexD (v / 16 ^ (16 - 1 - i) % 16)) := by
    have := congrArg (fun x => x.data.toList) h
    simpa [hexStr] using this
  have key : ∀ j, j < 16 → u / 16 ^ j % 16 = v / 16 ^ j % 16 := by
    intro j hj
    have e := congrArg (·[15 - j]?) hl
    simp only [List.getElem?_map, List.getElem?_range (show 15 - j < 16 by omega), Option.map_some, Option.some.injEq] at e
    rw [show 16 - 1 - (15 - j) = j by omega] at e
    exact hexD_inj _ _ (Nat.mod_lt _ (by decide)) (Nat.mod_lt _ (by decide)) e
  have := digits_eq u v 16 key
  rw [Nat.mod_eq_of_lt (show u < 16 ^ 16 by omega), Nat.mod_eq_of_lt (show v < 16 ^ 16 by omega)] at this
  exact this
theorem text_same (a b : Nat) (ha : a < 18446744073709551616) (hb : b < 18446744073709551616) : textW a = textW b ↔ form a = form b := by
  have size_ne : ∀ (x y : ByteArray), x.size ≠ y.size → x ≠ y := fun x y h e => h (by rw [e])
  have inf1 : form 9218868437227405312 = 9218868437227405312 := by decide
  have inf2 : form 18442240474082181120 = 18442240474082181120 := by decide
  have ne12 : (⟨#[43, 105, 110, 102]⟩ : ByteArray) ≠ ⟨#[45, 105, 110, 102]⟩ := by decide
  have num : ∀ x, x < 18446744073709551616 → nanW x = false → form x ≠ 9221120237041090560 := by
    intro x hx hn
    have := form_sg x hn
    unfold nanW at hn
    simp at hn
    rw [this]
    split <;> omega
  have fin : ∀ x y, y < 18446744073709551616 → nanW y = false → form y = x → x ≠ 0 → y = x := by
    intro x y hy hn h h0
    have := form_sg y hn
    rw [this] at h
    split at h <;> omega
  unfold textW
  by_cases na : nanW a = true <;> by_cases nb : nanW b = true
  · rw [if_pos na, if_pos nb, form_nan a na, form_nan b nb]
    simp
  · have nb' : nanW b = false := by simpa using nb
    rw [if_pos na, if_neg nb, form_nan a na]
    constructor
    · intro h
      exfalso
      revert h
      (repeat' split) <;> refine size_ne _ _ ?_ <;> first | decide | (rw [hexStr_size]; decide)
    · intro h
      exact absurd h.symm (num b hb nb')
  · have na' : nanW a = false := by simpa using na
    rw [if_neg na, if_pos nb, form_nan b nb]
    constructor
    · intro h
      exfalso
      revert h
      (repeat' split) <;> refine size_ne _ _ ?_ <;> first | decide | (rw [hexStr_size]; decide)
    · intro h
      exact absurd h (num a ha na')
  · have na' : nanW a = false := by simpa using na
    have nb' : nanW b = false := by simpa using nb
    rw [if_neg na, if_neg nb]
    by_cases a1 : a = 9218868437227405312
    · rw [if_pos a1]
      by_cases b1 : b = 9218868437227405312
      · rw [if_pos b1, a1, b1]
        simp
      · rw [if_neg b1]
        constructor
        · intro h
          exfalso
          revert h
          split
          · exact ne12
          · refine size_ne _ _ ?_
            rw [hexStr_size]; decide
        · intro h
          rw [a1, inf1] at h
          exact absurd (fin _ b hb nb' h.symm (by decide)) b1
    · rw [if_neg a1]
      by_cases b1 : b = 9218868437227405312
      · rw [if_pos b1]
        constructor
        · intro h
          exfalso
          revert h
          split
          · exact fun e => ne12 e.symm
          · refine size_ne _ _ ?_
            rw [hexStr_size]; decide
        · intro h
          rw [b1, inf1] at h
          exact absurd (fin _ a ha na' h (by decide)) a1
      · rw [if_neg b1]
        by_cases a2 : a = 18442240474082181120
        · rw [if_pos a2]
          by_cases b2 : b = 18442240474082181120
          · rw [if_pos b2, a2, b2]
            simp
          · rw [if_neg b2]
            constructor
            · intro h
              exfalso
              revert h
              refine size_ne _ _ ?_
              rw [hexStr_size]; decide
            · intro h
              rw [a2, inf2] at h
              exact absurd (fin _ b hb nb' h.symm (by decide)) b2
        · rw [if_neg a2]
          by_cases b2 : b = 18442240474082181120
          · rw [if_pos b2]
            constructor
            · intro h
              exfalso
              revert h
              refine size_ne _ _ ?_
              rw [hexStr_size]; decide
            · intro h
              rw [b2, inf2] at h
              exact absurd (fin _ a ha na' h (by decide)) a2
          · rw [if_neg b2]
            exact ⟨fun h => hexStr_inj _ _ (form_lt a ha) (form_lt b hb) h, fun h => by rw [h]⟩
end Go.Proofs.YtnakfnkmdiekhaaDoor
