/-
  Doubles: rounding is monotone; the product with a whole number, and the least whole number not below, rise with the factor (plain, no program).
-/
import Derived.Test.YtajklhlgakpgiaaFloCeil
import Derived.Test.YtajklhlgakpgiaaFloMin
import Derived.Test.YtajklhlgakpgiaaOrdW
namespace Ieee
/-- The whole number nearest to a quotient, the even one of two. -/
def nearQ (n g : Nat) : Nat := n / g + if g < 2 * (n % g) ∨ (g = 2 * (n % g) ∧ n / g % 2 = 1) then 1 else 0
theorem cut_near (n d : Nat) : Toward.even.cut false n d = nearQ n (2 ^ d) := by
  have key : ∀ g : Nat, n / g + (decide (g < 2 * (n % g)) || (g == 2 * (n % g)) && (n / g % 2 == 1)).toNat = nearQ n g := by
    intro g
    unfold nearQ
    congr 1
    by_cases h1 : g < 2 * (n % g)
    · rw [if_pos (.inl h1)]; simp [h1]
    · by_cases h2 : g = 2 * (n % g) ∧ n / g % 2 = 1
      · rw [if_pos (.inr h2)]
        have e1 : (g == 2 * (n % g)) = true := beq_iff_eq.2 h2.1
        have e2 : (n / g % 2 == 1) = true := beq_iff_eq.2 h2.2
        rw [e1, e2]; simp
      · rw [if_neg (fun c => c.elim h1 h2)]
        have e1 : decide (g < 2 * (n % g)) = false := decide_eq_false h1
        have e2 : ((g == 2 * (n % g)) && (n / g % 2 == 1)) = false := by
          rw [Bool.and_eq_false_iff, beq_eq_false_iff_ne, beq_eq_false_iff_ne]
          by_cases h3 : g = 2 * (n % g)
          · exact .inr fun h4 => h2 ⟨h3, h4⟩
          · exact .inl h3
        rw [e1, e2]; rfl
  unfold Toward.cut
  simp only [Nat.shiftLeft_eq, Nat.one_mul]
  by_cases hd : d ≤ n.log2 + 2
  · rw [Nat.min_eq_left hd]
    exact key (2 ^ d)
  · rw [Nat.min_eq_right (by omega)]
    have h1 : n < 2 ^ (n.log2 + 1) := Nat.lt_log2_self
    have h2 : 2 ^ (n.log2 + 2) = 2 ^ (n.log2 + 1) * 2 := Nat.pow_succ _ _
    have h3 : 2 ^ (n.log2 + 2) ≤ 2 ^ d := Nat.pow_le_pow_right (by decide) (by omega)
    have z : ∀ g : Nat, 2 * n < g → nearQ n g = 0 := fun g hg => by
      unfold nearQ
      rw [Nat.div_eq_of_lt (by omega), Nat.mod_eq_of_lt (by omega), if_neg (by omega)]
    rw [key (2 ^ (n.log2 + 2)), z _ (by omega), z _ (by omega)]
theorem nearQ_mono {n g m k : Nat} (hg : 0 < g) (hk : 0 < k) (h : n * k ≤ m * g) : nearQ n g ≤ nearQ m k := by
  have e1 := Nat.div_add_mod n g
  have e2 := Nat.div_add_mod m k
  have r1 := Nat.mod_lt n hg
  have r2 := Nat.mod_lt m hk
  unfold nearQ
  generalize n / g = a at *
  generalize n % g = r at *
  generalize m / k = b at *
  generalize m % k = s at *
  subst e1 e2
  have hgk : 0 < g * k := Nat.mul_pos hg hk
  have h1 : a * (g * k) + r * k ≤ b * (g * k) + s * g := by
    have x1 : (g * a + r) * k = a * (g * k) + r * k := by rw [Nat.add_mul]; congr 1; ac_rfl
    have x2 : (k * b + s) * g = b * (g * k) + s * g := by rw [Nat.add_mul]; congr 1; ac_rfl
    rw [← x1, ← x2]; exact h
  have hs : s * g < g * k := by rw [Nat.mul_comm g k]; exact Nat.mul_lt_mul_of_pos_right r2 hg
  rcases Nat.lt_trichotomy a b with hab | hab | hab
  · have : (if g < 2 * r ∨ g = 2 * r ∧ a % 2 = 1 then 1 else 0) ≤ 1 := by split <;> omega
    omega
  · subst hab
    have h2 : r * k ≤ s * g := Nat.le_of_add_le_add_left h1
    by_cases hc : g < 2 * r ∨ g = 2 * r ∧ a % 2 = 1
    · have hd : k < 2 * s ∨ k = 2 * s ∧ a % 2 = 1 := by
        rcases hc with hc | ⟨hc, ho⟩
        · refine .inl ?_
          have x1 : g * k < 2 * r * k := Nat.mul_lt_mul_of_pos_right hc hk
          have x2 : 2 * r * k = 2 * (r * k) := Nat.mul_assoc ..
          have x3 : g * (2 * s) = 2 * (s * g) := by ac_rfl
          exact Nat.lt_of_mul_lt_mul_left (a := g) (by omega)
        · have x1 : g * k = 2 * (r * k) := by rw [hc]; ac_rfl
          have x3 : g * (2 * s) = 2 * (s * g) := by ac_rfl
          have x4 : k ≤ 2 * s := Nat.le_of_mul_le_mul_left (by omega : g * k ≤ g * (2 * s)) hg
          omega
      rw [if_pos hc, if_pos hd]
      exact Nat.le_refl _
    · rw [if_neg hc]
      exact Nat.add_le_add_left (Nat.zero_le _) _
  · exfalso
    have x1 : (b + 1) * (g * k) ≤ a * (g * k) := Nat.mul_le_mul_right _ hab
    rw [Nat.add_mul, Nat.one_mul] at x1
    omega
/-- Powers of two on both sides of '≤' may be changed alike. -/
theorem pow_shift {M N x y u v : Nat} (hx : x + v = u + y) (h : M * 2 ^ x ≤ N * 2 ^ y) : M * 2 ^ u ≤ N * 2 ^ v := by
  have h1 : M * 2 ^ x * 2 ^ v ≤ N * 2 ^ y * 2 ^ v := Nat.mul_le_mul_right _ h
  have e1 : M * 2 ^ x * 2 ^ v = M * 2 ^ u * 2 ^ y := by rw [Nat.mul_assoc, Nat.mul_assoc, ← Nat.pow_add, ← Nat.pow_add, hx]
  have e2 : N * 2 ^ y * 2 ^ v = N * 2 ^ v * 2 ^ y := by ac_rfl
  rw [e1, e2] at h1
  exact Nat.le_of_mul_le_mul_right h1 (Nat.two_pow_pos _)
theorem kept_le (M : Nat) (place : Int) : Toward.even.cut false (M * 2 ^ (place - max (place + M.log2 - 52) (-1074)).toNat) (max (place + M.log2 - 52) (-1074) - place).toNat ≤ 2 ^ 53 := by
  obtain ⟨L, hL⟩ : ∃ L, L = M.log2 := ⟨_, rfl⟩
  have hhi : M < 2 ^ (L + 1) := by rw [hL]; exact Nat.lt_log2_self
  rw [← hL]
  refine cut_le _ _ _ ?_
  by_cases hs : place + L - 52 ≤ -1074
  · rw [Int.max_eq_right hs]
    by_cases hp : -1074 ≤ place
    · rw [show ((-1074 : Int) - place).toNat = 0 by omega, Nat.pow_zero, Nat.mul_one]
      have h1 : M * 2 ^ (place - -1074).toNat ≤ 2 ^ (L + 1) * 2 ^ (place - -1074).toNat := Nat.mul_le_mul_right _ (by omega)
      have h2 : 2 ^ (L + 1) * 2 ^ (place - -1074).toNat ≤ 2 ^ 53 := by rw [← Nat.pow_add]; exact Nat.pow_le_pow_right (by decide) (by omega)
      omega
    · rw [show (place - -1074).toNat = 0 by omega, Nat.pow_zero, Nat.mul_one]
      have h2 : 2 ^ (L + 1) ≤ 2 ^ 53 * 2 ^ ((-1074 : Int) - place).toNat := by rw [← Nat.pow_add]; exact Nat.pow_le_pow_right (by decide) (by omega)
      omega
  · rw [Int.max_eq_left (by omega)]
    by_cases hp : L ≤ 52
    · rw [show (place + (L : Int) - 52 - place).toNat = 0 by omega, Nat.pow_zero, Nat.mul_one, show (place - (place + (L : Int) - 52)).toNat = 52 - L by omega]
      have h1 : M * 2 ^ (52 - L) ≤ 2 ^ (L + 1) * 2 ^ (52 - L) := Nat.mul_le_mul_right _ (by omega)
      have h2 : 2 ^ (L + 1) * 2 ^ (52 - L) ≤ 2 ^ 53 := by rw [← Nat.pow_add]; exact Nat.pow_le_pow_right (by decide) (by omega)
      omega
    · rw [show (place - (place + (L : Int) - 52)).toNat = 0 by omega, Nat.pow_zero, Nat.mul_one, show (place + (L : Int) - 52 - place).toNat = L - 52 by omega]
      have h2 : 2 ^ (L + 1) ≤ 2 ^ 53 * 2 ^ (L - 52) := by rw [← Nat.pow_add]; exact Nat.pow_le_pow_right (by decide) (by omega)
      omega
theorem nearQ_ge {n g c : Nat} (hg : 0 < g) (h : c * g ≤ n) : c ≤ nearQ n g := Nat.le_trans ((Nat.le_div_iff_mul_le hg).2 h) (Nat.le_add_right _ _)
theorem kept_ge (M : Nat) (place : Int) (hM : M ≠ 0) (hs : -1074 < place + M.log2 - 52) : 2 ^ 52 ≤ Toward.even.cut false (M * 2 ^ (place - max (place + M.log2 - 52) (-1074)).toNat) (max (place + M.log2 - 52) (-1074) - place).toNat := by
  obtain ⟨L, hL⟩ : ∃ L, L = M.log2 := ⟨_, rfl⟩
  have hlo : 2 ^ L ≤ M := by rw [hL]; exact Nat.log2_self_le hM
  rw [← hL] at hs ⊢
  rw [cut_near, Int.max_eq_left (by omega)]
  refine nearQ_ge (Nat.two_pow_pos _) ?_
  by_cases hp : L ≤ 52
  · rw [show (place + (L : Int) - 52 - place).toNat = 0 by omega, Nat.pow_zero, Nat.mul_one, show (place - (place + (L : Int) - 52)).toNat = 52 - L by omega]
    have h1 : 2 ^ L * 2 ^ (52 - L) ≤ M * 2 ^ (52 - L) := Nat.mul_le_mul_right _ hlo
    rw [← Nat.pow_add, show L + (52 - L) = 52 by omega] at h1
    exact h1
  · rw [show (place - (place + (L : Int) - 52)).toNat = 0 by omega, Nat.pow_zero, Nat.mul_one, show (place + (L : Int) - 52 - place).toNat = L - 52 by omega, ← Nat.pow_add, show 52 + (L - 52) = L by omega]
    exact hlo
theorem nearest_zero (place : Int) : double.nearest false 0 place = 0 := rfl
/-- Rounding rises. -/
theorem nearest_mono (M N : Nat) (p q B : Int) (hp : B ≤ p) (hq : B ≤ q) (h : M * 2 ^ (p - B).toNat ≤ N * 2 ^ (q - B).toNat) : double.nearest false M p ≤ double.nearest false N q := by
  by_cases hM : M = 0
  · subst hM; rw [nearest_zero]; exact Nat.zero_le _
  have hN : N ≠ 0 := fun c => by
    subst c
    rw [Nat.zero_mul] at h
    have := Nat.mul_pos (Nat.pos_of_ne_zero hM) (Nat.two_pow_pos (p - B).toNat)
    omega
  have hlog : p + M.log2 ≤ q + N.log2 := by
    have h1 : 2 ^ M.log2 ≤ M := Nat.log2_self_le hM
    have h2 : N < 2 ^ (N.log2 + 1) := Nat.lt_log2_self
    have h3 : 2 ^ (M.log2 + (p - B).toNat) < 2 ^ (N.log2 + 1 + (q - B).toNat) := by
      rw [Nat.pow_add, Nat.pow_add]
      exact Nat.lt_of_le_of_lt (Nat.le_trans (Nat.mul_le_mul_right _ h1) h) (Nat.mul_lt_mul_of_pos_right h2 (Nat.two_pow_pos _))
    have := (Nat.pow_lt_pow_iff_right (by decide : 1 < 2)).1 h3
    omega
  have k1 := kept_le M p
  have k2 := kept_ge N q hN
  rw [nearest_eq M p hM, nearest_eq N q hN]
  refine Nat.le_min.2 ⟨Nat.le_trans (Nat.min_le_left _ _) ?_, Nat.min_le_right _ _⟩
  generalize M.log2 = L at *
  generalize N.log2 = K at *
  by_cases hE : max (p + (L : Int) - 52) (-1074) = max (q + (K : Int) - 52) (-1074)
  · rw [hE]
    refine Nat.add_le_add_left ?_ _
    rw [cut_near, cut_near]
    refine nearQ_mono (Nat.two_pow_pos _) (Nat.two_pow_pos _) ?_
    generalize max (q + (K : Int) - 52) (-1074) = E at *
    rw [Nat.mul_assoc, Nat.mul_assoc, ← Nat.pow_add, ← Nat.pow_add]
    exact pow_shift (by omega) h
  · have hlt : max (p + (L : Int) - 52) (-1074) < max (q + (K : Int) - 52) (-1074) := by omega
    have k2 := k2 (by omega)
    generalize Toward.even.cut false (M * 2 ^ (p - max (p + (L : Int) - 52) (-1074)).toNat) (max (p + (L : Int) - 52) (-1074) - p).toNat = c1 at *
    generalize Toward.even.cut false (N * 2 ^ (q - max (q + (K : Int) - 52) (-1074)).toNat) (max (q + (K : Int) - 52) (-1074) - q).toNat = c2 at *
    obtain ⟨E1, hE1⟩ : ∃ E1, E1 = (max (p + (L : Int) - 52) (-1074) + 1074).toNat := ⟨_, rfl⟩
    obtain ⟨E2, hE2⟩ : ∃ E2, E2 = (max (q + (K : Int) - 52) (-1074) + 1074).toNat := ⟨_, rfl⟩
    rw [← hE1, ← hE2]
    have hEE : E1 + 1 ≤ E2 := by omega
    have h1 : (E1 + 1) * 2 ^ 52 ≤ E2 * 2 ^ 52 := Nat.mul_le_mul_right _ hEE
    rw [Nat.add_mul, Nat.one_mul] at h1
    have h2 : (2 : Nat) ^ 53 = 2 ^ 52 + 2 ^ 52 := by decide
    generalize (2 : Nat) ^ 52 = W at *
    generalize E1 * W = X at *
    generalize E2 * W = Y at *
    omega
/-- The product with a whole number rises with a double up to 1. -/
theorem mul_mono (s t j : Nat) (hst : s ≤ t) (ht : t ≤ 1023 * 2 ^ 52) (hj : j ≤ 1000000) : (double.mul s (intOfF j)).getD 0 ≤ (double.mul t (intOfF j)).getD 0 := by
  obtain ⟨Q, hQ⟩ : ∃ Q, Q = 1074 := ⟨_, rfl⟩
  obtain ⟨m, i, e1, hi, u1⟩ := read_units t (by omega)
  obtain ⟨m', i', e1', hi', u1'⟩ := read_units s (by omega)
  obtain ⟨u2, f2⟩ := int_units Q j hQ (by omega)
  obtain ⟨x, y, e2, hy, u3⟩ := read_units (intOfF j) f2
  have h1 : double.mul t (intOfF j) = some (double.nearest false (m * x) (i + y)) := by unfold Format.mul; rw [e1, e2]; rfl
  have h2 : double.mul s (intOfF j) = some (double.nearest false (m' * x) (i' + y)) := by unfold Format.mul; rw [e1', e2]; rfl
  rw [h1, h2]
  show double.nearest false (m' * x) (i' + y) ≤ double.nearest false (m * x) (i + y)
  refine nearest_mono _ _ _ _ (-1074 + y) (by omega) (by omega) ?_
  have hu := units_le hst
  rw [u1, u1'] at hu
  rw [show (i' + y - (-1074 + y)).toNat = (i' + 1074).toNat by omega, show (i + y - (-1074 + y)).toNat = (i + 1074).toNat by omega]
  generalize 2 ^ (i' + 1074).toNat = a at *
  generalize 2 ^ (i + 1074).toNat = b at *
  rw [show m' * x * a = m' * a * x by ac_rfl, show m * x * b = m * b * x by ac_rfl]
  exact Nat.mul_le_mul_right _ hu
theorem sg_zero : sg 0 = 0 := by decide
theorem nanW_zero : nanW 0 = false := by decide
theorem nanW_one : nanW oneF = false := by decide
theorem sg_one : sg oneF = 4607182418800017408 := by decide
theorem read_big_zero : (double.read 9223372036854775808).neg = true := by decide
theorem cmp3_gt {x y : Int} (h : y < x) : cmp3 x y = .gt := by unfold cmp3; rw [if_neg (by omega), if_neg (by omega)]
theorem cmp3_lt {x y : Int} (h : x < y) : cmp3 x y = .lt := by unfold cmp3; rw [if_pos h]
theorem cmp3_eq (x : Int) : cmp3 x x = .eq := by unfold cmp3; rw [if_neg (by omega), if_pos rfl]
/-- A number brought within 0 and 1, by its signed rung. -/
theorem clampF_word (b : Nat) (hb : b < 2 ^ 64) (hn : nanW b = false) : (clampF b : Int) = min (max (sg b) 0) 4607182418800017408 := by
  have hr : b % 9223372036854775808 ≤ 9218868437227405312 := by
    have := of_decide_eq_false hn
    omega
  have o1 : double.order b 0 = some (cmp3 (sg b) 0) := by rw [order_word b 0 hb (by decide), hn, nanW_zero, sg_zero]; rfl
  have hmax : (maxF b : Int) = max (sg b) 0 ∧ maxF b ≤ 9218868437227405312 := by
    unfold maxF
    rw [o1]
    rcases Int.lt_trichotomy (sg b) 0 with h | h | h
    · rw [cmp3_lt h]
      exact ⟨by show ((0 : Nat) : Int) = _; omega, Nat.zero_le _⟩
    · rw [h, cmp3_eq]
      simp only
      have hb0 : b = 0 ∨ b = 9223372036854775808 := by unfold sg at h; split at h <;> omega
      rcases hb0 with rfl | rfl
      · split
        · exact ⟨by omega, Nat.zero_le _⟩
        · exact ⟨by omega, Nat.zero_le _⟩
      · rw [if_pos read_big_zero]
        exact ⟨by omega, Nat.zero_le _⟩
    · rw [cmp3_gt h]
      simp only
      unfold sg at h ⊢
      split at h
      · omega
      · rename_i h9
        rw [if_neg h9]
        omega
  obtain ⟨hm1, hm2⟩ := hmax
  have hnm : nanW (maxF b) = false := by unfold nanW; exact decide_eq_false (by omega)
  have hsm : sg (maxF b) = (maxF b : Int) := by unfold sg; rw [if_neg (by omega)]; omega
  have o2 : double.order (maxF b) oneF = some (cmp3 (maxF b : Int) 4607182418800017408) := by rw [order_word _ _ (by omega) (by decide), hnm, nanW_one, sg_one, hsm]; rfl
  unfold clampF minF
  rw [o2, ← hm1]
  have ho : oneF = 4607182418800017408 := rfl
  generalize maxF b = m at *
  rcases Int.lt_trichotomy (m : Int) 4607182418800017408 with h | h | h
  · rw [cmp3_lt h]
    simp only
    omega
  · rw [h, cmp3_eq]
    simp only
    split <;> omega
  · rw [cmp3_gt h]
    simp only
    omega
theorem clampF_mono (p q : Nat) (hp : p < 2 ^ 64) (hq : q < 2 ^ 64) (hpn : nanW p = false) (hqn : nanW q = false) (h : sg p ≤ sg q) : clampF p ≤ clampF q := by
  have h1 := clampF_word p hp hpn
  have h2 := clampF_word q hq hqn
  omega
theorem int_mono {x y : Nat} (hxy : x ≤ y) (hy : y < 2 ^ 53) : intOfF x ≤ intOfF y := by
  obtain ⟨Q, hQ⟩ : ∃ Q, Q = 1074 := ⟨_, rfl⟩
  obtain ⟨u1, _⟩ := int_units Q x hQ (by omega)
  obtain ⟨u2, _⟩ := int_units Q y hQ (by omega)
  refine Nat.not_lt.1 fun c => ?_
  have := units_mono c
  rw [u1, u2] at this
  have := Nat.mul_le_mul_right (2 ^ Q) hxy
  omega
theorem int_order {x y : Nat} (hxy : x ≤ y) (hy : y < 2 ^ 53) : double.order (intOfF x) (intOfF y) ≠ some .gt := by
  obtain ⟨_, f1⟩ := int_units 1074 x rfl (by omega)
  obtain ⟨_, f2⟩ := int_units 1074 y rfl (by omega)
  rw [order_rung _ _ f1 f2]
  have := int_mono hxy hy
  split
  · intro c; cases c
  · split
    · intro c; cases c
    · omega
end Ieee
