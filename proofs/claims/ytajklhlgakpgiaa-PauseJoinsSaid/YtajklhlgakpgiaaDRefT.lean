/-
  The reference of the layer pause (amblerref34): At.
-/
import Derived.Test.YtajklhlgakpgiaaDRefS
namespace Go.Proofs.Ytajklhlgakpgiaa
open Go.RowKit Go.Lib

theorem int_below (k c u Q : Nat) (hQ : Q = 1074) (hk : k < 2 ^ 53) (hc : c ≤ 1044 * 2 ^ 52) (hu : u = (Ieee.unitsOf c + (2 ^ Q - 1)) / 2 ^ Q) : (FloatKind.f64.format.order (floatOfInt .f64 (k : Int)) c == some .lt) = decide (k < u) := by
  obtain ⟨e1, f1⟩ := Ieee.int_units Q k hQ hk
  rw [int_float]
  show (Ieee.double.order (Ieee.intOfF k) c == some .lt) = _
  rw [Ieee.order_rung _ _ f1 (by omega)]
  have hp : 0 < 2 ^ Q := Nat.two_pow_pos Q
  have key : k < u ↔ Ieee.intOfF k < c := by
    have h1 : k < u ↔ k * 2 ^ Q < Ieee.unitsOf c := by
      rw [hu]
      generalize 2 ^ Q = M at *
      generalize Ieee.unitsOf c = U
      rw [show k < (U + (M - 1)) / M ↔ k + 1 ≤ (U + (M - 1)) / M from Iff.rfl, Nat.le_div_iff_mul_le hp, Nat.add_mul]
      omega
    rw [h1, ← e1]
    exact ⟨Ieee.lt_of_units, Ieee.units_mono⟩
  by_cases h : k < u
  · rw [decide_eq_true h, if_pos (key.1 h)]; rfl
  · rw [decide_eq_false h, if_neg (fun c => h (key.2 c))]
    split <;> rfl
set_option maxHeartbeats 1000000 in
set_option maxRecDepth 100000 in
theorem atr_c (T : Nat → Prop) (r t : Nat) (L : List Int) (w : World) (H : RN w T r L) (ht : t ≤ 1023 * 2 ^ 52) (hn0 : 1 ≤ L.length) :
    Calls Try.prog 12 #[.pointer (some ⟨r, 0, none⟩), .float .f64 t] w fun e w' => w = w' ∧ ∃ (k : Nat) (y : Int), e = .returned (.int .i64 y) ∧ (k : Int) = rankF t L.length ∧ 1 ≤ k ∧ k ≤ L.length ∧ L[k - 1]? = some y := by
  obtain ⟨v, h1, h2, _⟩ := H.ex
  have hsm := H.small
  obtain ⟨c, hm, hc⟩ := Ieee.mul_int t L.length ht (by omega)
  obtain ⟨Q, hQ⟩ : ∃ Q, Q = 1074 := ⟨_, rfl⟩
  obtain ⟨u, hu, g1, g2, g3⟩ := Ieee.ceil_int Q c hQ hc
  have hmul : ∀ w : World, (binOp .mul 23 (.float .f64 t) (.float .f64 (floatOfInt .f64 (L.length : Int)))).run Try.prog w = .ok (.float .f64 c) w := fun w => run_float_arith w .mul _ .f64 t _ c (by rw [int_float]; exact hm)
  have hr : rankF t L.length = min (max (u : Int) 1) L.length := by
    have hcf : ceilF c = u := by unfold ceilF; rw [g1, g2]; simp
    unfold rankF
    rw [hm]
    show min (max (ceilF c : Int) 1) _ = _
    rw [hcf]
  have hcmp : ∀ k : Nat, k ≤ 1000 → (FloatKind.f64.format.order (floatOfInt .f64 (k : Int)) c == some .lt) = decide (k < u) := fun k hk => int_below k c u Q hQ (by omega) hc g3
  rw [hr]
  obtain ⟨p, cc, rfl, hn, hnc, _, hR⟩ := num_row h2
  have c0 := h1.cell 0
  have HR := Lib.hid (And.intro hR hcmp)
  have hz1 : ((L.length : Int) == 0) = false := by rw [beq_eq_false_iff_ne]; omega
  have hz2 : ¬ (L.length : Int) = 0 := by omega
  have hz3 : ¬ L.length = 0 := by omega
  have hz4 : ¬ L = [] := fun e => by rw [e] at hz3; exact hz3 rfl
  clear h1 h2 H hR hcmp g1 g2 g3 hm hr hc hQ hu
  go_enter Try.func12, Try.ntmps12
  go_wp2_with fail
  clear hmul
  go_loop [7] (fun s7 => ∃ k : Nat, 1 ≤ k ∧ k ≤ L.length ∧ s7 = .int .i64 k ∧ (k = 1 ∨ k ≤ u)) (fun s7 => L.length - (RowKit.intOf s7).toNat)
  case atStart => exact ⟨1, Nat.le_refl _, hn0, rfl, .inl rfl⟩
  case round =>
    obtain ⟨k, hk1, hk, rfl, hku⟩ := hrel
    have hw : IntKind.i64.wrap ((k : Int) + 1) = (k : Int) + 1 := by rw [IntKind.wrap_i64]; omega
    by_cases hgo : k < L.length ∧ k < u
    · have hlt1 : (k : Int) < L.length := by omega
      have hf : (FloatKind.f64.format.order (floatOfInt .f64 (k : Int)) c == some .lt) = true := (HR.out.2 k (by omega)).trans (decide_eq_true hgo.2)
      have HK := Lib.hid (And.intro hku hgo.2)
      clear hku hgo
      go_wp2_with fail
      go_round
      case rel => exact ⟨k + 1, by omega, by omega, rfl, .inr (by have := HK.out.2; omega)⟩
      case measure => simp only [RowKit.intOf]; omega
    · obtain ⟨a, rfl, hcell⟩ := HR.out.1 (k - 1) (by omega)
      obtain ⟨j, hj⟩ : ∃ j, k - 1 = j := ⟨_, rfl⟩
      have hjl : j < L.length := by omega
      have hy : L[k - 1]? = some L[j] := by rw [hj]; exact List.getElem?_eq_getElem hjl
      have hcell' : w.cell? (a.add j) = some (.int .i64 L[j]) := by
        have := hcell
        simp only [hj] at this
        exact this
      have hfin : (k : Int) = min (max (u : Int) 1) L.length := by omega
      generalize L[j] = y at hy hcell'
      clear hcell
      have hw1 : IntKind.i64.wrap ((k : Int) - 1) = (j : Int) := by rw [IntKind.wrap_i64]; omega
      have hj1 : (j : Int) < L.length := by omega
      have hj0 : (0 : Int) ≤ j := by omega
      have HK := Lib.hid (And.intro hku (And.intro hy (And.intro hfin hj)))
      by_cases hlt : k < L.length
      · have hlt1 : (k : Int) < L.length := by omega
        have hf : (FloatKind.f64.format.order (floatOfInt .f64 (k : Int)) c == some .lt) = false := (HR.out.2 k (by omega)).trans (decide_eq_false (fun c => hgo ⟨hlt, c⟩))
        clear hku hgo hy hfin hj
        go_wp2_with fail
        go_ret
        exact ⟨rfl, k, y, rfl, HK.out.2.2.1, hk1, hk, HK.out.2.1⟩
      · have hlt1 : ¬ (k : Int) < L.length := by omega
        clear hku hgo hy hfin hj
        go_wp2_with fail
        go_ret
        exact ⟨rfl, k, y, rfl, HK.out.2.2.1, hk1, hk, HK.out.2.1⟩
end Go.Proofs.Ytajklhlgakpgiaa
