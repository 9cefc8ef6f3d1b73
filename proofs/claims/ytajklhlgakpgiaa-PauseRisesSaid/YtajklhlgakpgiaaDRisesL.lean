/-
  What At answers as its argument rises, and at the ends (plain); Copysign and Inf, by contracts.
-/
import Derived.Test.YtajklhlgakpgiaaDTells
import Derived.Test.YtajklhlgakpgiaaFloMono
namespace Go.Proofs.Ytajklhlgakpgiaa
open Go.RowKit Go.Lib

theorem ceilF_eq (Q c : Nat) (hQ : Q = 1074) (hc : c ≤ 1044 * 2 ^ 52) : ceilF c = (Ieee.unitsOf c + (2 ^ Q - 1)) / 2 ^ Q := by
  obtain ⟨u, hu, h1, h2, h3⟩ := Ieee.ceil_int Q c hQ hc
  unfold ceilF
  rw [h1, h2]
  simp only
  rw [← h3]
  simp
theorem ceilF_mono {c d : Nat} (h : c ≤ d) (hd : d ≤ 1044 * 2 ^ 52) : ceilF c ≤ ceilF d := by
  obtain ⟨Q, hQ⟩ : ∃ Q, Q = 1074 := ⟨_, rfl⟩
  rw [ceilF_eq Q c hQ (Nat.le_trans h hd), ceilF_eq Q d hQ hd]
  exact Nat.div_le_div_right (Nat.add_le_add_right (Ieee.units_le h) _)
theorem mul_top (t n : Nat) (ht : t ≤ 1023 * 2 ^ 52) (hn : n ≤ 1000000) : (Ieee.double.mul t (Ieee.intOfF n)).getD 0 ≤ 1044 * 2 ^ 52 := by
  obtain ⟨c, h1, h2⟩ := Ieee.mul_int t n ht hn
  rw [h1]
  exact h2
theorem rankF_mono {s t n : Nat} (h : s ≤ t) (ht : t ≤ 1023 * 2 ^ 52) (hn : n ≤ 1000000) : rankF s n ≤ rankF t n := by
  have := ceilF_mono (Ieee.mul_mono s t n h ht hn) (mul_top t n ht hn)
  unfold rankF
  omega
theorem rankF_in (t n : Nat) (hn : 1 ≤ n) : 1 ≤ rankF t n ∧ rankF t n ≤ n := by unfold rankF; omega
theorem rankF_zero (n : Nat) (hn : 1 ≤ n) (h : n ≤ 1000000) : rankF 0 n = 1 := by
  obtain ⟨Q, hQ⟩ : ∃ Q, Q = 1074 := ⟨_, rfl⟩
  obtain ⟨_, f2⟩ := Ieee.int_units Q n hQ (by omega)
  obtain ⟨x, y, e2, _, _⟩ := Ieee.read_units (Ieee.intOfF n) f2
  have h1 : Ieee.double.mul 0 (Ieee.intOfF n) = some 0 := by
    unfold Ieee.Format.mul
    rw [e2, Ieee.read_zero]
    show some (Ieee.double.nearest false (0 * x) (-1074 + y)) = some 0
    rw [Nat.zero_mul]
    rfl
  have h2 : ceilF 0 = 0 := by
    rw [ceilF_eq Q 0 hQ (Nat.zero_le _), show Ieee.unitsOf 0 = 0 from rfl]
    exact Nat.div_eq_of_lt (by have := Nat.two_pow_pos Q; omega)
  unfold rankF
  rw [h1, show (some 0).getD 0 = 0 from rfl, h2]
  omega
theorem rankF_one (n : Nat) (hn : 1 ≤ n) (h : n ≤ 1000000) : rankF (1023 * 2 ^ 52) n = n := by
  obtain ⟨Q, hQ⟩ : ∃ Q, Q = 1074 := ⟨_, rfl⟩
  obtain ⟨u2, f2⟩ := Ieee.int_units Q n hQ (by omega)
  obtain ⟨x, y, e2, hy, u3⟩ := Ieee.read_units (Ieee.intOfF n) f2
  obtain ⟨m, i, e1, hi, u1⟩ := Ieee.read_units (1023 * 2 ^ 52) (by omega)
  have u1' : 2 ^ Q = m * 2 ^ (i + 1074).toNat := by rw [← u1]; exact (Ieee.units_at_one Q hQ).symm
  have hmul : Ieee.double.mul (1023 * 2 ^ 52) (Ieee.intOfF n) = some (Ieee.double.nearest false (m * x) (i + y)) := by unfold Ieee.Format.mul; rw [e1, e2]; rfl
  have htop := mul_top (1023 * 2 ^ 52) n (Nat.le_refl _) h
  rw [hmul] at htop
  have hge : Ieee.intOfF n ≤ Ieee.double.nearest false (m * x) (i + y) := by
    refine Ieee.nearest_mono n (m * x) 0 (i + y) (-2148) (by omega) (by omega) (Nat.le_of_eq ?_)
    rw [show (i + y - -2148).toNat = (i + 1074).toNat + (y + 1074).toNat by omega, show ((0 : Int) - -2148).toNat = Q + Q by omega, Nat.pow_add, Nat.pow_add]
    rw [show m * x * (2 ^ (i + 1074).toNat * 2 ^ (y + 1074).toNat) = (m * 2 ^ (i + 1074).toNat) * (x * 2 ^ (y + 1074).toNat) by ac_rfl, ← u1', ← u3, u2]
    ac_rfl
  have hc : ceilF (Ieee.intOfF n) = n := by
    rw [ceilF_eq Q _ hQ (Nat.le_trans hge htop), u2]
    have hp := Nat.two_pow_pos Q
    rw [show n * 2 ^ Q + (2 ^ Q - 1) = 2 ^ Q * n + (2 ^ Q - 1) by rw [Nat.mul_comm], Nat.mul_add_div hp, Nat.div_eq_of_lt (by omega)]
    omega
  have := ceilF_mono hge htop
  unfold rankF
  rw [hmul]
  show min (max (ceilF (Ieee.double.nearest false (m * x) (i + y)) : Int) 1) n = n
  omega

/-! ### the list of all numbers rises -/
theorem expand_sorted {l : List Pr2} (hs : SortP l) : (expand l).Pairwise (· ≤ ·) := by
  induction l with
  | nil => exact List.Pairwise.nil
  | cons x l ih =>
    have hx := (List.pairwise_cons.1 hs).1
    refine List.pairwise_append.2 ⟨List.pairwise_replicate.2 (.inr (Int.le_refl _)), ih (List.pairwise_cons.1 hs).2, fun a ha b hb => ?_⟩
    obtain ⟨z, hz, rfl⟩ := expand_mem hb
    rw [(List.mem_replicate.1 ha).2]
    have := hx z hz
    omega
theorem at_law' {l : List Pr2} (hp : Pos l) (k : Int) (h1 : 1 ≤ k) (h2 : k ≤ ((expand l).length : Int)) : ∃ y, (expand l)[k.toNat - 1]? = some y ∧ atL k l = floatOfInt .f64 y := by
  obtain ⟨y, g1, g2⟩ := at_law hp k.toNat (by omega) (by omega)
  rw [show ((k.toNat : Nat) : Int) = k by omega] at g2
  exact ⟨y, g1, g2⟩
theorem int_float' {y : Int} (h : 0 ≤ y) : floatOfInt .f64 y = Ieee.intOfF y.toNat := by
  have := int_float y.toNat
  rw [show ((y.toNat : Nat) : Int) = y by omega] at this
  exact this
theorem atL_mono {l : List Pr2} (hs : SortP l) (hp : Pos l) (hK : KB l) {j k : Int} (h1 : 1 ≤ j) (h2 : j ≤ k) (h3 : k ≤ ((expand l).length : Int)) : Ieee.double.order (atL j l) (atL k l) ≠ some .gt := by
  obtain ⟨y, a1, a2⟩ := at_law' hp j h1 (by omega)
  obtain ⟨z, b1, b2⟩ := at_law' hp k (by omega) h3
  have hy := expand_kb hK y (List.mem_of_getElem? a1)
  have hz := expand_kb hK z (List.mem_of_getElem? b1)
  have hyz : y ≤ z := by
    rcases Nat.lt_or_eq_of_le (show j.toNat - 1 ≤ k.toNat - 1 by omega) with h | h
    · obtain ⟨i1, e1⟩ := List.getElem?_eq_some_iff.1 a1
      obtain ⟨i2, e2⟩ := List.getElem?_eq_some_iff.1 b1
      have := List.pairwise_iff_getElem.1 (expand_sorted hs) _ _ i1 i2 h
      rw [e1, e2] at this
      exact this
    · rw [h, b1] at a1
      have := Option.some.inj a1
      omega
  rw [a2, b2, int_float' hy.1, int_float' hz.1]
  exact Ieee.int_order (by omega) (by omega)
theorem expand_head {x : Pr2} {l : List Pr2} (hp : Pos (x :: l)) : (expand (x :: l))[0]? = some x.key := by
  have hv := hp x (List.mem_cons_self ..)
  show (List.replicate _ _ ++ expand l)[0]? = _
  rw [List.getElem?_append_left (by rw [List.length_replicate]; omega), List.getElem?_replicate, if_pos (by omega)]
theorem at_first {x : Pr2} {l : List Pr2} (hp : Pos (x :: l)) : atL 1 (x :: l) = floatOfInt .f64 x.key := by
  have hv := hp x (List.mem_cons_self ..)
  rw [atL, if_pos (by omega)]
theorem at_last {l : List Pr2} (hp : Pos l) (hl : l ≠ []) (n : Nat) (hn : (expand l).length = n) (h1 : 1 ≤ n) : atL n l = floatOfInt .f64 (mostP l) := by
  obtain ⟨y, g1, g2⟩ := at_law hp n h1 (by omega)
  have h4 := expand_last hp hl
  rw [List.getLast?_eq_getElem?, hn, g1] at h4
  rw [g2, Option.some.inj h4]

/-! ### what At answers -/
theorem atF_num {q : Nat} {l : List Pr2} {n : Nat} (hn : 1 ≤ n) (hq : Ieee.nanW q = false) (h64 : q < 2 ^ 64) : atF q l n = atL (rankF (Ieee.clampF q) n) l := by
  refine if_neg fun c => c.elim (by omega) fun c => ?_
  rw [Ieee.isNaN_word q h64, hq] at c
  cases c
theorem atF_mono {p q : Nat} {l : List Pr2} {n : Nat} (hs : SortP l) (hp : Pos l) (hK : KB l) (hl : (expand l).length = n) (hn : 1 ≤ n) (hn2 : n ≤ 1000) (p64 : p < 2 ^ 64) (q64 : q < 2 ^ 64)
    (h : Ieee.double.order p q = some .lt) : (FloatKind.f64.format.order (atF p l n) (atF q l n) == some .gt) = false := by
  rw [Ieee.order_word p q p64 q64] at h
  by_cases hpn : Ieee.nanW p = true
  · rw [hpn] at h; cases h
  by_cases hqn : Ieee.nanW q = true
  · rw [hqn, Bool.or_true] at h; cases h
  have hpn : Ieee.nanW p = false := by simpa using hpn
  have hqn : Ieee.nanW q = false := by simpa using hqn
  rw [hpn, hqn] at h
  have hc : Ieee.cmp3 (Ieee.sg p) (Ieee.sg q) = .lt := Option.some.inj h
  have hsg : Ieee.sg p ≤ Ieee.sg q := by
    unfold Ieee.cmp3 at hc
    split at hc
    · omega
    · split at hc <;> cases hc
  have hcl := Ieee.clampF_mono p q p64 q64 hpn hqn hsg
  have htop : Ieee.clampF q ≤ 1023 * 2 ^ 52 := Ieee.clampF_le q q64 (by rw [Ieee.isNaN_word q q64]; exact hqn)
  have hr := rankF_mono hcl htop (n := n) (by omega)
  rw [atF_num hn hpn p64, atF_num hn hqn q64]
  have := atL_mono hs hp hK (rankF_in (Ieee.clampF p) n hn).1 hr (by rw [hl]; exact (rankF_in _ n hn).2)
  rw [beq_eq_false_iff_ne]
  exact this
/-- Of a record of some numbers: at 0, at 1 and beyond. -/
theorem atF_low {q : Nat} {x : Pr2} {l : List Pr2} {n : Nat} (hp : Pos (x :: l)) (hn : 1 ≤ n) (hn2 : n ≤ 1000) (q64 : q < 2 ^ 64) (hq : Ieee.nanW q = false) (hc : Ieee.clampF q = 0) : atF q (x :: l) n = floatOfInt .f64 x.key := by
  rw [atF_num hn hq q64, hc, rankF_zero n hn (by omega), at_first hp]
theorem atF_high {q : Nat} {l : List Pr2} {n : Nat} (hp : Pos l) (hl : l ≠ []) (hn : 1 ≤ n) (hn2 : n ≤ 1000) (he : (expand l).length = n) (q64 : q < 2 ^ 64) (hq : Ieee.nanW q = false) (hc : Ieee.clampF q = 4607182418800017408) : atF q l n = floatOfInt .f64 (mostP l) := by
  rw [atF_num hn hq q64, hc]
  have := rankF_one n hn (by omega)
  rw [show 1023 * 2 ^ 52 = 4607182418800017408 by decide] at this
  rw [this, at_last hp hl n he hn]
theorem clamp_zero : Ieee.clampF 0 = 0 := by have := Ieee.clampF_word 0 (by decide) (by decide); rw [Ieee.sg_zero] at this; omega
theorem clamp_nzero : Ieee.clampF 9223372036854775808 = 0 := by have := Ieee.clampF_word 9223372036854775808 (by decide) (by decide); rw [show Ieee.sg 9223372036854775808 = 0 by decide] at this; omega
theorem clamp_one : Ieee.clampF 4607182418800017408 = 4607182418800017408 := by have := Ieee.clampF_word 4607182418800017408 (by decide) (by decide); rw [show Ieee.sg 4607182418800017408 = 4607182418800017408 by decide] at this; omega
theorem clamp_inf : Ieee.clampF 9218868437227405312 = 4607182418800017408 := by have := Ieee.clampF_word 9218868437227405312 (by decide) (by decide); rw [show Ieee.sg 9218868437227405312 = 9218868437227405312 by decide] at this; omega
theorem clamp_ninf : Ieee.clampF 18442240474082181120 = 0 := by have := Ieee.clampF_word 18442240474082181120 (by decide) (by decide); rw [show Ieee.sg 18442240474082181120 = -9218868437227405312 by decide] at this; omega
/-- One of the numbers is the answer. -/
theorem atF_one {q : Nat} {l : List Pr2} {n : Nat} (hp : Pos l) (hl : (expand l).length = n) (hn : 1 ≤ n) (q64 : q < 2 ^ 64) (hq : Ieee.nanW q = false) : ∃ x ∈ l, floatOfInt .f64 x.key = atF q l n := by
  have hr := rankF_in (Ieee.clampF q) n hn
  obtain ⟨y, g1, g2⟩ := at_law' hp _ hr.1 (by rw [hl]; exact hr.2)
  obtain ⟨x, hx, rfl⟩ := expand_mem (List.mem_of_getElem? g1)
  exact ⟨x, hx, by rw [atF_num hn hq q64, g2]⟩
theorem int_self (y : Int) (h0 : 0 ≤ y) (h1 : y ≤ 1099511627776) : FloatKind.f64.format.order (floatOfInt .f64 y) (floatOfInt .f64 y) = some .eq := by
  obtain ⟨_, f⟩ := Ieee.int_units 1074 y.toNat rfl (by omega)
  rw [int_float' h0]
  show Ieee.double.order _ _ = _
  rw [Ieee.order_rung _ _ f f, if_neg (by omega), if_pos rfl]

/-! ### how many are greater, row by row -/
theorem above_rows {l : List Pr2} (hs : SortP l) : ∀ (i : Nat) (h : i < l.length), aboveP l[i].key l = sumV l - sumV (l.take (i + 1)) := by
  induction l with
  | nil => intro i h; cases h
  | cons x l ih =>
    have hx := (List.pairwise_cons.1 hs).1
    have hs2 := (List.pairwise_cons.1 hs).2
    have e1 : sumV (x :: l) = x.val + sumV l := by simp [sumV]
    intro i h
    cases i with
    | zero =>
      have all : ∀ (m : List Pr2), (∀ y ∈ m, x.key < y.key) → aboveP x.key m = sumV m := by
        intro m
        induction m with
        | nil => intro _; rfl
        | cons y m ihm =>
          intro hm
          rw [aboveP, if_pos (hm y (List.mem_cons_self ..)), ihm fun z hz => hm z (List.mem_cons_of_mem _ hz)]
          simp [sumV]
      show aboveP x.key (x :: l) = _
      rw [aboveP, if_neg (by omega), all l hx, e1]
      simp [sumV]
      omega
    | succ i =>
      have h' : i < l.length := by simpa using h
      have hxi := hx l[i] (List.getElem_mem h')
      show aboveP l[i].key (x :: l) = _
      rw [aboveP, if_neg (by omega), ih hs2 i h', e1]
      simp [sumV]
      omega

/-! ### Copysign and Inf -/
theorem bits_run (w : World) (b : Nat) : (callFunc 33 #[.float .f64 b]).run Try.prog w = .ok (.value (.int .u64 (b : Int))) w := by
  rw [@run_callFunc_extern Try.prog 33 _ Extern.MathFloatBits.float64bits Try.func33 (by kernel_rfl) (by kernel_rfl) (by kernel_rfl) (by kernel_rfl)]
  rfl
theorem copysign_c (w : World) : Calls Try.prog 24 #[.float .f64 0, .float .f64 13830554455654793216] w fun e w' => e = .returned (.float .f64 9223372036854775808) ∧ w = w' := by
  have e0 : ∀ w : World, (callFunc 33 #[.float .f64 0]).run Try.prog w = .ok (.value (.int .u64 0)) w := fun w => bits_run w 0
  have e1 : ∀ w : World, (callFunc 33 #[.float .f64 13830554455654793216]).run Try.prog w = .ok (.value (.int .u64 13830554455654793216)) w := fun w => bits_run w 13830554455654793216
  have e3 : ∀ w : World, (callFunc 30 #[.int .u64 (bits BinOp.or IntKind.u64 (bits BinOp.andNot IntKind.u64 0 9223372036854775808) (bits BinOp.and IntKind.u64 13830554455654793216 9223372036854775808))]).run Try.prog w = .ok (.value (.float .f64 9223372036854775808)) w := fun w => by rw [show (bits BinOp.or IntKind.u64 (bits BinOp.andNot IntKind.u64 0 9223372036854775808) (bits BinOp.and IntKind.u64 13830554455654793216 9223372036854775808)) = 9223372036854775808 by decide]; exact from_run w 9223372036854775808
  go_enter Try.func24, Try.ntmps24
  go_wp2
  go_ret
  exact ⟨rfl, rfl⟩
theorem inf_c (w : World) : Calls Try.prog 25 #[.int .i64 1] w fun e w' => e = .returned (.float .f64 9218868437227405312) ∧ w = w' := by
  have e3 : ∀ w : World, (callFunc 30 #[.int .u64 9218868437227405312]).run Try.prog w = .ok (.value (.float .f64 9218868437227405312)) w := fun w => from_run w 9218868437227405312
  go_enter Try.func25, Try.ntmps25
  go_wp2
  go_ret
  exact ⟨rfl, rfl⟩
theorem ninf_c (w : World) : Calls Try.prog 25 #[.int .i64 (-1)] w fun e w' => e = .returned (.float .f64 18442240474082181120) ∧ w = w' := by
  have e3 : ∀ w : World, (callFunc 30 #[.int .u64 18442240474082181120]).run Try.prog w = .ok (.value (.float .f64 18442240474082181120)) w := fun w => from_run w 18442240474082181120
  go_enter Try.func25, Try.ntmps25
  go_wp2
  go_ret
  exact ⟨rfl, rfl⟩
end Go.Proofs.Ytajklhlgakpgiaa
