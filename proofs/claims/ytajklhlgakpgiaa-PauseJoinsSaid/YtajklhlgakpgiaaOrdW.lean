/-
  The order of all doubles by their words: signed rungs (plain, no program); forms, keys, the next form.
-/
import Derived.Test.YtajklhlgakpgiaaFloCls
namespace Ieee
/-- Is a word a NaN's? -/
def nanW (b : Nat) : Bool := decide (9218868437227405312 < b % 9223372036854775808)
/-- The signed rung. -/
def sg (b : Nat) : Int := if 9223372036854775808 ≤ b then -((b % 9223372036854775808 : Nat) : Int) else ((b % 9223372036854775808 : Nat) : Int)
def cmp3 (x y : Int) : Ordering := if x < y then .lt else if x = y then .eq else .gt

theorem read_split (b : Nat) (hb : b < 2 ^ 64) : double.read b = if 9223372036854775808 ≤ b then (double.read (b % 9223372036854775808)).opposite else double.read (b % 9223372036854775808) := by
  have e4 : double.signWeight = 9223372036854775808 := by decide
  unfold Format.read
  rw [e4]
  have h1 : b % 9223372036854775808 / 9223372036854775808 % 2 = 0 := by omega
  have h2 : b % 9223372036854775808 % 9223372036854775808 = b % 9223372036854775808 := by omega
  rw [h1, h2]
  by_cases hn : 9223372036854775808 ≤ b
  · have h3 : b / 9223372036854775808 % 2 = 1 := by omega
    rw [if_pos hn, h3]
    simp only
    split
    · rfl
    · split
      · rfl
      · split <;> rfl
  · have h3 : b / 9223372036854775808 % 2 = 0 := by omega
    rw [if_neg hn, h3]

theorem read_inf : double.read 9218868437227405312 = .infinity false := by decide
theorem read_nan (r : Nat) (h : 9218868437227405312 < r) (h2 : r < 9223372036854775808) : ∃ t, double.read r = .nan false t := by
  have e2 : double.binade = 2 ^ 52 := rfl
  have e3 : double.infRung = 9218868437227405312 := by decide
  have e4 : double.signWeight = 9223372036854775808 := by decide
  unfold Format.read
  rw [e2, e3, e4]
  have h1 : r / 9223372036854775808 % 2 = 0 := by omega
  have h3 : r % 9223372036854775808 = r := by omega
  rw [h1, h3, if_neg (by omega), if_neg (by omega), if_neg (by omega)]
  exact ⟨_, rfl⟩
theorem isNaN_word (b : Nat) (hb : b < 2 ^ 64) : (double.read b).isNaN = nanW b := by
  rw [read_split b hb]
  have hop : ∀ d : Datum, d.opposite.isNaN = d.isNaN := fun d => by cases d <;> rfl
  have key : (double.read (b % 9223372036854775808)).isNaN = nanW b := by
    unfold nanW
    by_cases h : 9218868437227405312 < b % 9223372036854775808
    · obtain ⟨t, ht⟩ := read_nan _ h (by omega)
      rw [ht]
      simp [Datum.isNaN, h]
    · by_cases he : b % 9223372036854775808 = 9218868437227405312
      · rw [he, read_inf]
        rfl
      · obtain ⟨m, i, e, _⟩ := read_units (b % 9223372036854775808) (by omega)
        rw [e]
        simp [Datum.isNaN, h]
  split
  · rw [hop]; exact key
  · exact key

/-- A word that is no NaN: a number in units, or an infinity. -/
theorem read_word (b : Nat) (hb : b < 2 ^ 64) (hn : nanW b = false) :
    (∃ s m i, double.read b = .number s m i ∧ -1074 ≤ i ∧ unitsOf (b % 9223372036854775808) = m * 2 ^ (i + 1074).toNat ∧ b % 9223372036854775808 < 9218868437227405312 ∧ s = decide (9223372036854775808 ≤ b)) ∨
    (double.read b = .infinity (decide (9223372036854775808 ≤ b)) ∧ b % 9223372036854775808 = 9218868437227405312) := by
  unfold nanW at hn
  simp at hn
  rw [read_split b hb]
  by_cases he : b % 9223372036854775808 = 9218868437227405312
  · right
    rw [he, read_inf]
    refine ⟨?_, rfl⟩
    split
    · rename_i h; simp [Datum.opposite, h]
    · rename_i h; simp [h]
  · left
    obtain ⟨m, i, e, hi, hu⟩ := read_units (b % 9223372036854775808) (by omega)
    rw [e]
    refine ⟨decide (9223372036854775808 ≤ b), m, i, ?_, hi, hu, by omega, rfl⟩
    split
    · rename_i h; simp [Datum.opposite, h]
    · rename_i h; simp [h]

theorem cmp3_congr {x y z u : Int} (h1 : x < y ↔ z < u) (h2 : x = y ↔ z = u) : cmp3 x y = cmp3 z u := by
  unfold cmp3
  by_cases a : x < y
  · rw [if_pos a, if_pos (h1.1 a)]
  · rw [if_neg a, if_neg (fun h => a (h1.2 h))]
    by_cases b : x = y
    · rw [if_pos b, if_pos (h2.1 b)]
    · rw [if_neg b, if_neg (fun h => b (h2.2 h))]
theorem signed_cmp (s t : Bool) (X Y A B : Nat) (h1 : X < Y ↔ A < B) (h2 : X = Y ↔ A = B) (h3 : X = 0 ↔ A = 0) (h4 : Y = 0 ↔ B = 0) :
    cmp3 (if s then -(X : Int) else X) (if t then -(Y : Int) else Y) = cmp3 (if s then -(A : Int) else A) (if t then -(B : Int) else B) := by
  cases s <;> cases t <;> simp only [Bool.false_eq_true, if_false, if_true] <;> refine cmp3_congr ⟨fun h => ?_, fun h => ?_⟩ ⟨fun h => ?_, fun h => ?_⟩ <;> omega

theorem order_word (a b : Nat) (ha : a < 2 ^ 64) (hb : b < 2 ^ 64) : double.order a b = if nanW a || nanW b then none else some (cmp3 (sg a) (sg b)) := by
  by_cases na : nanW a = true
  · rw [na]
    exact order_nan a b ((isNaN_word a ha).trans na)
  have na' : nanW a = false := by simpa using na
  by_cases nb : nanW b = true
  · rw [nb, Bool.or_true]
    unfold Format.order
    have h := (isNaN_word b hb).trans nb
    generalize double.read a = x at *
    generalize double.read b = y at *
    cases y <;> simp [Datum.isNaN] at h
    cases x <;> rfl
  have nb' : nanW b = false := by simpa using nb
  rw [na', nb']
  simp only [Bool.or_self, Bool.false_eq_true, if_false]
  unfold Format.order
  rcases read_word a ha na' with ⟨s, m, i, e1, hi, u1, f1, hs⟩ | ⟨e1, f1⟩ <;> rcases read_word b hb nb' with ⟨t, n, j, e2, hj, u2, f2, ht⟩ | ⟨e2, f2⟩
  · rw [e1, e2]
    unfold Datum.order
    simp only [signed, Nat.shiftLeft_eq, cmp_int]
    congr 1
    have g1 : unitsOf (a % 9223372036854775808) = (m * 2 ^ (i - min i j).toNat) * 2 ^ (min i j + 1074).toNat := by
      rw [u1, Nat.mul_assoc, ← Nat.pow_add]; congr 2; omega
    have g2 : unitsOf (b % 9223372036854775808) = (n * 2 ^ (j - min i j).toNat) * 2 ^ (min i j + 1074).toNat := by
      rw [u2, Nat.mul_assoc, ← Nat.pow_add]; congr 2; omega
    have hc : 0 < 2 ^ (min i j + 1074).toNat := Nat.two_pow_pos _
    have hlt : ∀ x y : Nat, x < y ↔ unitsOf x < unitsOf y := fun x y => ⟨units_mono, lt_of_units⟩
    have heq : ∀ x y : Nat, x = y ↔ unitsOf x = unitsOf y := fun x y => ⟨fun h => by rw [h], units_inj⟩
    have hz : ∀ x : Nat, x = 0 ↔ unitsOf x = 0 := fun x => by
      have h0 : unitsOf 0 = 0 := rfl
      rw [heq x 0, h0]
    generalize m * 2 ^ (i - min i j).toNat = X at *
    generalize n * 2 ^ (j - min i j).toNat = Y at *
    generalize 2 ^ (min i j + 1074).toNat = c at *
    have k1 : X < Y ↔ a % 9223372036854775808 < b % 9223372036854775808 := by
      rw [hlt (a % 9223372036854775808) (b % 9223372036854775808), g1, g2]
      exact ⟨fun h => Nat.mul_lt_mul_of_pos_right h hc, fun h => Nat.lt_of_mul_lt_mul_right h⟩
    have k2 : X = Y ↔ a % 9223372036854775808 = b % 9223372036854775808 := by
      rw [heq (a % 9223372036854775808) (b % 9223372036854775808), g1, g2]
      exact ⟨fun h => by rw [h], fun h => Nat.eq_of_mul_eq_mul_right hc h⟩
    have k3 : X = 0 ↔ a % 9223372036854775808 = 0 := by
      rw [hz (a % 9223372036854775808), g1]
      exact ⟨fun h => by rw [h, Nat.zero_mul], fun h => by rcases Nat.mul_eq_zero.1 h with h | h; exact h; omega⟩
    have k4 : Y = 0 ↔ b % 9223372036854775808 = 0 := by
      rw [hz (b % 9223372036854775808), g2]
      exact ⟨fun h => by rw [h, Nat.zero_mul], fun h => by rcases Nat.mul_eq_zero.1 h with h | h; exact h; omega⟩
    have := signed_cmp s t X Y _ _ k1 k2 k3 k4
    subst hs ht
    simp only [decide_eq_true_eq] at this ⊢
    exact this
  · rw [e1, e2]
    unfold Datum.order sg cmp3
    simp only [decide_eq_true_eq]
    congr 1
    split <;> split <;> (try split) <;> (try split) <;> first | rfl | omega
  · rw [e1, e2]
    unfold Datum.order sg cmp3
    simp only [decide_eq_true_eq]
    congr 1
    split <;> split <;> (try split) <;> (try split) <;> first | rfl | omega
  · rw [e1, e2]
    unfold Datum.order sg cmp3
    congr 1
    by_cases p : 9223372036854775808 ≤ a <;> by_cases q : 9223372036854775808 ≤ b <;> simp only [p, q, decide_true, decide_false, if_true, if_false, f1, f2] <;> decide
end Ieee
