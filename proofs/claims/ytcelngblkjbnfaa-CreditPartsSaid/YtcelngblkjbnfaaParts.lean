/-
  amblerlaw07.CreditParts answers true: the walk.
-/
import Derived.Test.YtcelngblkjbnfaaKeeps
import Derived.Test.YtcelngblkjbnfaaFloPart
namespace Go.Proofs.Ytcelngblkjbnfaa
open Go.RowKit Ieee

theorem whole_part (p : Nat) (hp : p < 20) (w : World) : Calls Try.prog 8 #[.float .f64 (partOf p 1)] w fun e w' => e = .returned (.tuple #[.int .i64 (if p = 0 then 1 else 0 : Nat), .float .f64 (if p = 0 then 0 else partOf p 1)]) ∧ w = w' := by
  have h := part_ok p hp
  simp only [partOk, Bool.and_eq_true, beq_iff_eq, decide_eq_true_eq] at h
  obtain ⟨⟨⟨⟨_, h2⟩, h3⟩, h4⟩, h5⟩ := h
  obtain ⟨t, ht⟩ : ∃ t : Nat, t = (if p = 0 then 4607182418800017408 else 0) := ⟨_, rfl⟩
  rw [← ht] at h2 h3
  obtain ⟨d, hd⟩ : ∃ d : Nat, d = (if p = 0 then 0 else partOf p 1) := ⟨_, rfl⟩
  rw [← hd] at h3 ⊢
  have o0 : Ieee.double.order (partOf p 1) 0 = some .gt := by rw [Ieee.order_rung _ 0 (by omega) (by decide), if_neg (by omega), if_neg (by omega)]
  have o1 : Ieee.double.order (partOf p 1) (partOf p 1) = some .eq := by rw [Ieee.order_rung _ _ (by omega) (by omega), if_neg (by omega), if_pos rfl]
  have o2 : Ieee.double.order (partOf p 1) 4787326403894837248 = some .lt := by rw [Ieee.order_rung _ _ (by omega) (by decide), if_pos (by omega)]
  have hc : floatToIntVal .f64 t .i64 = some ((if p = 0 then 1 else 0 : Nat) : Int) := by
    rw [ht]
    by_cases hz : p = 0
    · rw [if_pos hz, if_pos hz]; kernel_rfl
    · rw [if_neg hz, if_neg hz]; kernel_rfl
  refine creditWhole_mid (partOf p 1) t d _ (Lib.hid (Floor_any _ t (by omega) h2)) ?_ ?_ ?_ (fun w => run_convert_float_int w 22 3 .f64 .i64 t _ (by kernel_rfl) Try.underlying3 hc) (run_fsub _ _ _ h3) w
  · show (Ieee.double.order (partOf p 1) (partOf p 1) != some .eq) = false
    rw [o1]; rfl
  · show (Ieee.double.order (partOf p 1) 0 == some .lt || Ieee.double.order (partOf p 1) 0 == some .eq) = false
    rw [o0]; rfl
  · show (Ieee.double.order (partOf p 1) 4787326403894837248 == some .gt || Ieee.double.order (partOf p 1) 4787326403894837248 == some .eq) = false
    rw [o2]; rfl

theorem depo_none (bal : Int) (h0 : 0 ≤ bal) (h1 : bal < 4000) : depo bal 0 = 0 ∧ depo bal 1 = 1 := by
  unfold depo
  omega
theorem div_step (i P : Nat) (hP : 0 < P) : (i % P + 1 < P → (i + 1) / P = i / P ∧ (i + 1) % P = i % P + 1) ∧ (i % P + 1 = P → (i + 1) / P = i / P + 1 ∧ (i + 1) % P = 0) := by
  have h1 := Nat.div_add_mod i P
  constructor
  · intro h
    have e : i + 1 = (i % P + 1) + P * (i / P) := by omega
    constructor
    · rw [e, Nat.add_mul_div_left _ _ hP, Nat.div_eq_of_lt h, Nat.zero_add]
    · rw [e, Nat.add_mul_mod_self_left, Nat.mod_eq_of_lt h]
  · intro h
    have e : i + 1 = P * (i / P + 1) := by rw [Nat.mul_add, Nat.mul_one]; omega
    constructor
    · rw [e, Nat.mul_div_cancel_left _ hP]
    · rw [e, Nat.mul_mod_right]

/-- One Earn of the part: so far i of them, then i + 1. -/
theorem earn_part (b p i : Nat) (hp : p < 20) (hi : i < 3000) (w : World) (H : LedAt w b ((i / 2 ^ p : Nat) : Int) (partOf p (i % 2 ^ p))) :
    Calls Try.prog 10 #[.pointer (some ⟨b, 0, none⟩), .float .f64 (partOf p 1)] w fun e w' => e = .returned (.int .i64 (((i + 1) / 2 ^ p : Nat) - (i / 2 ^ p : Nat))) ∧ LedAt w' b (((i + 1) / 2 ^ p : Nat) : Int) (partOf p ((i + 1) % 2 ^ p)) ∧ But b w w' := by
  have hP : 0 < 2 ^ p := Nat.two_pow_pos p
  have hle : i / 2 ^ p ≤ i := Nat.div_le_self _ _
  have hP20 : 2 ^ p ≤ 2 ^ 20 := Nat.pow_le_pow_right (by decide) (by omega)
  have hmod : i % 2 ^ p < 2 ^ p := Nat.mod_lt _ hP
  obtain ⟨s1, s2⟩ := div_step i (2 ^ p) hP
  have b0 : (0 : Int) ≤ ((i / 2 ^ p : Nat) : Int) := Int.natCast_nonneg _
  have b1 : ((i / 2 ^ p : Nat) : Int) < 4000 := by omega
  obtain ⟨d0, d1⟩ := depo_none _ b0 b1
  have low : ∀ c, c < 1023 * 2 ^ 52 → (FloatKind.f64.format.order c 4607182418800017408 == some .gt || FloatKind.f64.format.order c 4607182418800017408 == some .eq) = false := by
    intro c hc
    show (Ieee.double.order c 4607182418800017408 == some .gt || Ieee.double.order c 4607182418800017408 == some .eq) = false
    rw [Ieee.order_rung c _ (by omega) (by decide), if_pos (by omega)]; rfl
  by_cases hz : p = 0
  · subst hz
    have hW := whole_part 0 (by decide)
    rw [if_pos rfl, if_pos rfl] at hW
    have e0 : ∀ x : Nat, x % 2 ^ 0 = 0 := fun x => Nat.mod_one x
    have e1 : ∀ x : Nat, x / 2 ^ 0 = x := fun x => Nat.div_one x
    simp only [e0, e1] at H d1 b1 ⊢
    have := led_earn_low b i (partOf 0 0) (partOf 0 1) 1 0 (partOf 0 0) (Lib.hid hW) (by kernel_rfl) (by kernel_rfl) w H (by omega) (by omega)
    rw [show ((1 : Nat) : Int) = 1 from rfl, d1] at this
    rw [show ((i + 1 : Nat) : Int) = (i : Int) + 1 by omega, show (i : Int) + 1 - i = 1 by omega]
    exact this
  · have hW := whole_part p hp
    rw [if_neg hz, if_neg hz] at hW
    have hadd := part_add p (i % 2 ^ p) (by omega) (by omega)
    by_cases hl : i % 2 ^ p + 1 < 2 ^ p
    · obtain ⟨g1, g2⟩ := s1 hl
      rw [g1, g2]
      have := led_earn_low b _ _ (partOf p 1) 0 (partOf p 1) (partOf p (i % 2 ^ p + 1)) (Lib.hid hW) hadd (low _ (part_below p _ (by omega) hl)) w H b0 (by omega)
      rw [show ((0 : Nat) : Int) = 0 from rfl, d0, Int.add_zero] at this
      rw [Int.sub_self]
      exact this
    · have hl2 : i % 2 ^ p + 1 = 2 ^ p := by omega
      obtain ⟨g1, g2⟩ := s2 hl2
      rw [g1, g2]
      rw [hl2, part_one p (by omega)] at hadd
      have hs := part_sub_one p 0 (by omega) (by decide)
      rw [Nat.add_zero, part_one p (by omega)] at hs
      have := led_earn_high b _ _ (partOf p 1) 0 (partOf p 1) (1023 * 2 ^ 52) (partOf p 0) (Lib.hid hW) hadd (by kernel_rfl) hs w H b0 (by omega)
      rw [show ((0 : Nat) : Int) = 0 from rfl, d0, Int.add_zero, d1] at this
      rw [show ((i / 2 ^ p + 1 : Nat) : Int) = ((i / 2 ^ p : Nat) : Int) + 1 by omega, show ((i / 2 ^ p : Nat) : Int) + 1 - ((i / 2 ^ p : Nat) : Int) = 0 + 1 by omega]
      exact this

theorem tmod_small (x m : Int) (hm : 0 < m) (hm2 : m ≤ 3000) : ∃ n : Nat, (n : Int) < m ∧ wrap64 ((IntKind.u64.wrap x).tmod m) = (n : Int) := by
  have h0 : 0 ≤ IntKind.u64.wrap x := by
    show 0 ≤ x % 18446744073709551616
    omega
  have h1 : (IntKind.u64.wrap x).tmod m = IntKind.u64.wrap x % m := Int.tmod_eq_emod_of_nonneg h0
  have h2 := Int.emod_nonneg (IntKind.u64.wrap x) (show m ≠ 0 by omega)
  have h3 := Int.emod_lt_of_pos (IntKind.u64.wrap x) hm
  rw [h1]
  generalize IntKind.u64.wrap x % m = y at *
  refine ⟨y.toNat, by omega, ?_⟩
  rw [IntWalk.wrap64_in _ ⟨by omega, by omega⟩]
  omega
theorem run_fmul (x y r : Nat) (h : Ieee.double.mul x y = some r) (w : World) : (binOp .mul 22 (.float .f64 x) (.float .f64 y)).run Try.prog w = .ok (.float .f64 r) w := run_float_arith w .mul _ .f64 _ _ _ h
theorem run_fquo (x y r : Nat) (h : Ieee.double.div x y = some r) (w : World) : (binOp .quo 22 (.float .f64 x) (.float .f64 y)).run Try.prog w = .ok (.float .f64 r) w := run_float_arith w .quo _ .f64 _ _ _ h
theorem part_div (i : Nat) (hi : i < 20) : Ieee.double.div (partOf i 1) 4611686018427387904 = some (partOf (i + 1) 1) := by
  have h := part_ok i hi
  simp only [partOk, Bool.and_eq_true, beq_iff_eq] at h
  exact h.1.1.1.1

set_option maxHeartbeats 1000000 in
set_option maxRecDepth 100000 in
theorem parts_walk (x0 x1 : Int) (w : World) :
    Calls Try.prog 4 #[.int .i64 x0, .int .i64 x1] w fun e w' => e = .returned (.bool true) ∧ Below w.heap.size w w' := by
  have hst := store_f
  obtain ⟨n, hn, en⟩ := tmod_small x0 3000 (by decide) (by decide)
  obtain ⟨p, hp, ep⟩ := tmod_small x1 20 (by decide) (by decide)
  have one : partOf 0 1 = 4607182418800017408 := by kernel_rfl
  go_enter Try.func4, Try.ntmps4
  go_upto_region 5 with (go_at_call 7; refine (alive_yes _).mono ?_; rintro e w2 ⟨rfl, hb2⟩)
  rw [en, ep]
  clear en ep
  generalize hw1 : w2.alloc (Obj.cells #[Value.int IntKind.i64 0, Value.float FloatKind.f64 0] 30) = w1
  have HS0 := Lib.hid (show KeepAt w w1 w2.heap.size 0 0 by subst hw1; exact ⟨Blk.new w2 _ _, hb2.trans ((Below.refl _ _).alloc hb2.size _), hb2.size⟩)
  clear hb2 hw1
  generalize w2.heap.size = b at *
  rw [← one]
  have ONE := Lib.hid one
  clear one
  go_wp2_with fail
  go_loopw [8, 25] (fun s8 s25 wr => ∃ i : Nat, i ≤ p ∧ s25 = .int .i64 i ∧ s8 = .float .f64 (partOf i 1) ∧ wr = w1) (fun _ s25 _ => p - (intOf s25).toNat)
  case atStart => exact ⟨0, by omega, rfl, rfl, rfl⟩
  case round =>
    obtain ⟨i, hi, rfl, rfl, rfl⟩ := hrel
    by_cases hlt : i < p
    · have hd := run_fquo _ _ _ (part_div i (by omega))
      generalize partOf i 1 = pa at *
      go_wp2
      go_roundw
      case rel => exact ⟨i + 1, by omega, by go_num, rfl, trivial⟩
      case measure => simp [intOf]; omega
    · obtain rfl : p = i := by omega
      go_wp2_with fail
      go_loopw [9, 31] (fun s9 s31 wr => ∃ i : Nat, i ≤ n ∧ s31 = .int .i64 i ∧ s9 = .int .i64 ((i / 2 ^ p : Nat) : Int) ∧ KeepAt w wr b ((i / 2 ^ p : Nat) : Int) (partOf p (i % 2 ^ p))) (fun _ s31 _ => n - (intOf s31).toNat)
      case atStart => exact ⟨0, by omega, rfl, by simp, by simpa [part_zero] using HS0.out⟩
      case round =>
        obtain ⟨i, hi, rfl, rfl, hK⟩ := hrel
        have HS := Lib.hid hK
        clear hK
        by_cases hlt : i < n
        · have X1 := Lib.hid (fun W H => earn_part b p i (by omega) (by omega) W H)
          have hle : (i + 1) / 2 ^ p ≤ i + 1 := Nat.div_le_self _ _
          have hle2 : i / 2 ^ p ≤ i := Nat.div_le_self _ _
          have hle3 : i / 2 ^ p ≤ (i + 1) / 2 ^ p := Nat.div_le_div_right (by omega)
          generalize hr2 : partOf p ((i + 1) % 2 ^ p) = r2 at *
          generalize hq2 : (i + 1) / 2 ^ p = q2 at *
          generalize partOf p (i % 2 ^ p) = r1 at *
          generalize i / 2 ^ p = q1 at *
          generalize partOf p 1 = pa at *
          have HQ := Lib.hid (And.intro hr2 hq2)
          clear hr2 hq2
          go_wp2_with (go_at_call 10; refine (X1.out _ HS.out.led).mono ?_; rintro e w5 ⟨rfl, hL, hb⟩)
          go_roundw
          case rel => exact ⟨i + 1, by omega, by go_num, by rw [HQ.out.2]; congr 1; omega, by rw [HQ.out.2, HQ.out.1]; exact ⟨hL, HS.out.old.trans (hb.below HS.out.lo HS.out.old.size), HS.out.lo⟩⟩
          case measure => simp [intOf]; omega
        · obtain rfl : n = i := by omega
          go_upto_region 16 with fail
          have hP : 0 < 2 ^ p := Nat.two_pow_pos p
          have he : (n : Int) / 2 ^ p = ((n / 2 ^ p : Nat) : Int) := by simp
          rw [he]
          have hqn := Nat.div_le_self n (2 ^ p)
          have hm1 : wrap64 ((n : Int) - wrap64 (((n / 2 ^ p : Nat) : Int) * 2 ^ p)) = ((n % 2 ^ p : Nat) : Int) := by
            have h2 : ((n / 2 ^ p : Nat) : Int) * 2 ^ p = ((n / 2 ^ p * 2 ^ p : Nat) : Int) := by simp
            have h3 := Nat.div_add_mod n (2 ^ p)
            rw [Nat.mul_comm] at h3
            rw [h2]
            generalize n / 2 ^ p * 2 ^ p = A at *
            generalize n % 2 ^ p = B at *
            rw [IntWalk.wrap64_in (A : Int) ⟨by omega, by omega⟩, IntWalk.wrap64_in _ ⟨by omega, by omega⟩]
            omega
          have hj : n % 2 ^ p < 2 ^ p := Nat.mod_lt _ hP
          have hP20 : 2 ^ p ≤ 2 ^ 20 := Nat.pow_le_pow_right (by decide) (by omega)
          have hmul : ∀ w : World, (binOp .mul 22 (.float .f64 (floatOfInt .f64 (wrap64 ((n : Int) - wrap64 (((n / 2 ^ p : Nat) : Int) * 2 ^ p))))) (.float .f64 (partOf p 1))).run Try.prog w = .ok (.float .f64 (partOf p (n % 2 ^ p))) w := by
            rw [hm1]
            refine run_fmul _ _ _ ?_
            have h4 : floatOfInt .f64 ((n % 2 ^ p : Nat) : Int) = partOf 0 (n % 2 ^ p) := by
              show Ieee.double.write (.number (decide (((n % 2 ^ p : Nat) : Int) < 0)) ((n % 2 ^ p : Nat) : Int).natAbs 0) = _
              have e1 : decide (((n % 2 ^ p : Nat) : Int) < 0) = false := by simp; omega
              rw [e1, Int.natAbs_natCast]
              rfl
            rw [h4]
            exact part_mul p _ (by omega) (by omega)
          obtain ⟨o1, _, _, _⟩ := rest_facts _ (part_below p _ (by omega) hj)
          clear hm1 hj hP20 he hP
          generalize partOf p (n % 2 ^ p) = r at *
          generalize n / 2 ^ p = q at *
          generalize partOf p 1 = pa at *
          have ht : takes q n = q := by unfold takes; omega
          have X2 := Lib.hid (fun W H => led_balance b (q : Int) r W H)
          have X3 := Lib.hid (fun W H => led_rest b (q : Int) r W H)
          have X4 := fun W H => led_take b (q : Int) r n W H (by omega) (by omega)
          rw [ht, Int.sub_self] at X4
          replace X4 := Lib.hid X4
          have X5 := Lib.hid (fun W H => led_balance b 0 r W H)
          have HO := Lib.hid (And.intro HS.out.old HS.out.lo)
          replace HS := Lib.hid HS.out.led
          clear ht
          go_wp2_with (first | (go_at_call 11; refine (X2.out _ HS.out).mono ?_; rintro e w5 ⟨rfl, rfl⟩) | (go_at_call 12; refine (X3.out _ HS.out).mono ?_; rintro e w5 ⟨rfl, rfl⟩) | (go_at_call 13; refine (X4.out _ HS.out).mono ?_; rintro e w5 ⟨rfl, hL, hb⟩; replace HS := Lib.hid hL; clear hL) | (go_at_call 11; refine (X5.out _ HS.out).mono ?_; rintro e w6 ⟨rfl, rfl⟩))
          go_ret
          exact ⟨rfl, HO.out.1.trans (hb.below HO.out.2 HO.out.1.size)⟩
end Go.Proofs.Ytcelngblkjbnfaa
