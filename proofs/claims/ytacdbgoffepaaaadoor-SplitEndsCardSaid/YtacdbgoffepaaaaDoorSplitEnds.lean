/-
  amblerlaw03.SplitEnds answers true: the walk.
-/
import Derived.Test.YtacdbgoffepaaaaDoorEnds
import Derived.Test.YtacdbgoffepaaaaDoorTells
namespace Go.Proofs.YtacdbgoffepaaaaDoor
open Go.RowKit

/-- A hash is of a prefix if and only if it lies between the ends. -/
theorem within_ends (h p : Int) (D : Nat) (hp : Pref p D) : withinB h p D = (decide (h ≥ lowI p D) && decide (h ≤ highI p D)) := by
  obtain ⟨d0, d1, p0, p1⟩ := hp
  have e : (64 - (D : Int)).toNat = 64 - D := by omega
  unfold withinB lowI highI
  rw [e, ← Bool.decide_and]
  refine decide_eq_decide.2 ?_
  have hq : (0 : Int) < 2 ^ (64 - D) := Int.pow_pos (by decide)
  generalize (2 : Int) ^ (64 - D) = q at *
  constructor
  · rintro ⟨_, _, _, _, hx⟩
    subst hx
    have := Int.emod_nonneg h (Int.ne_of_gt hq)
    have h2 := Int.emod_lt_of_pos h hq
    have h3 := Int.mul_ediv_add_emod h q
    rw [Int.mul_comm] at h3
    constructor <;> omega
  · rintro ⟨ha, hb⟩
    refine ⟨d0, d1, p0, p1, ?_⟩
    have hx : h = (h - p * q) + p * q := by omega
    rw [hx, Int.add_mul_ediv_right _ _ (Int.ne_of_gt hq), Int.ediv_eq_zero_of_lt (by omega) (by omega)]
    omega
theorem within_no (h p d : Int) (hp : ¬ Pref p d) : withinB h p d = false := by
  refine decide_eq_false fun hx => hp ⟨hx.1, hx.2.1, hx.2.2.1, hx.2.2.2.1⟩

theorem refEnds_no (p d : Int) (w : World) (h : ¬ Pref p d) :
    Calls Tryd.prog 28 #[.int .i64 p, .int .i64 d] w fun e w' => e = .returned (.tuple #[.int .u64 0, .int .u64 0, .int .i64 1]) ∧ Below w.heap.size w w' := by
  by_cases a : d < 0 ∨ 16 < d ∨ p < 0
  · exact refEnds_bad1 p d w a
  · obtain ⟨D, rfl⟩ := Int.eq_ofNat_of_zero_le (show 0 ≤ d by omega)
    refine refEnds_bad2 p D w (by omega) (by omega) (Int.not_lt.1 fun hlt => h ⟨by omega, by omega, by omega, by rw [Int.toNat_natCast]; exact hlt⟩)

set_option maxHeartbeats 2000000 in
set_option maxRecDepth 100000 in
theorem ends_walk (p d h : Int) (w : World) (ea : Nat → Addr) (hE : ErrsAt w ea)
    (h0 : 0 ≤ h) (h1 : h < 18446744073709551616) :
    Calls Tryd.prog 5 #[.int .i64 p, .int .i64 d, .int .u64 h] w fun e w' => e = .returned (.bool true) ∧ Below w.heap.size w w' := by
  have HE := Lib.hid hE
  have W1 := Lib.hid (fun W hE => within_any h p d W (ea 0) hE h0 h1)
  clear hE
  by_cases hd : Pref p d
  · have hd' := hd
    obtain ⟨d0, d1, p0, p1⟩ := hd'
    obtain ⟨D, rfl⟩ := Int.eq_ofNat_of_zero_le d0
    have L1 := Lib.hid (fun W => low_yes p D W hd)
    have L2 := Lib.hid (fun W => high_yes p D W hd)
    have L3 := Lib.hid (fun W => refEnds_yes p D W (by omega) p0 (by rw [Int.toNat_natCast] at p1; exact p1))
    have hw := within_ends h p D hd
    have hv := low_val p D hd
    have e : (64 - (D : Int)).toNat = 64 - D := by omega
    rw [e] at L1 L2 hv
    have hq : (0 : Int) < 2 ^ (64 - D) := Int.pow_pos (by decide)
    have hl1 : 0 ≤ lowI p D := by unfold lowI; omega
    have hl2 : lowI p D < 18446744073709551616 := by unfold lowI; omega
    have hh1 : 0 ≤ highI p D := by unfold highI; omega
    have hh2 : highI p D < 18446744073709551616 := by unfold highI; omega
    change Hid (∀ W, Calls _ _ _ W fun e w' => e = .returned (.tuple #[.int .u64 (lowI p D), .nilIface]) ∧ W = w') at L1
    change Hid (∀ W, Calls _ _ _ W fun e w' => e = .returned (.tuple #[.int .u64 (highI p D), .nilIface]) ∧ W = w') at L2
    clear hd hv hq e d0 d1 p0 p1
    generalize lowI p D = A at *
    generalize highI p D = B at *
    have hcase : (A ≤ h ∧ h ≤ B ∧ withinB h p D = true) ∨ (decide (A ≤ h) = false ∧ withinB h p D = false) ∨ (A ≤ h ∧ decide (h ≤ B) = false ∧ withinB h p D = false) := by
      rw [hw]
      by_cases a : A ≤ h
      · by_cases b : h ≤ B
        · left; exact ⟨a, b, by simp [a, b]⟩
        · right; right; exact ⟨a, decide_eq_false b, by simp [b]⟩
      · right; left; exact ⟨decide_eq_false a, by simp [a]⟩
    clear hw
    generalize withinB h p D = wi at *
    go_enter Tryd.func5, Tryd.ntmps5
    go_upto_region 6 with (first
      | (go_at_call 10; refine (alive03 _).mono ?_; rintro e w' ⟨rfl, rfl⟩)
      | (go_at_call 26; refine (L1.out _).mono ?_; rintro e w' ⟨rfl, rfl⟩)
      | (go_at_call 27; refine (L2.out _).mono ?_; rintro e w' ⟨rfl, rfl⟩)
      | (go_at_call 28; refine (L3.out _).mono ?_; rintro e w1 ⟨rfl, hb1⟩))
    have HE1 := Lib.hid (HE.out.same hb1)
    have HB1 := Lib.hid hb1
    clear hb1 HE
    refine region_seq (C := Below w1.heap.size w1) (Below.refl _ _) ?_
    have HC0 : Below w1.heap.size w1 w1 := Below.refl _ _
    rcases hcase with ⟨ha, hb, rfl⟩ | ⟨ha, rfl⟩ | ⟨ha, hb, rfl⟩
    all_goals
      open BigFrame in
      repeat (first | go_big_quiet_skip | (go_big_quiet_want; first | (apply quiet_one (hC := HC0); exact rfl; exact Nat.le_of_ble_eq_true rfl; (focus (intro w' hw'; skip; go_big_quiet_op; with_reducible exact rfl)); go_big_quiet_on) | (go_big_quiet_op; apply Exists.intro; refine ⟨fun w' hw' => ?_, ?_⟩; (focus (skip; first | ((with_reducible exact quiet_call hw' (num_nil _))) | ((have X := W1.out _ ((HE1.out.same hw').one 0 (by decide)); with_reducible exact quiet_call hw' X)))); go_big_quiet_on)))
      refine wpQuiet_nil ?_
      intro w5 hb5
      go_wp2
      go_ret
      exact ⟨rfl, HB1.out.trans (hb5.mono HB1.out.size)⟩
  · have L1 := Lib.hid (fun W hE => low_no p d W (ea 0) hE hd)
    have L2 := Lib.hid (fun W hE => high_no p d W (ea 0) hE hd)
    have L3 := Lib.hid (fun W => refEnds_no p d W hd)
    rw [within_no h p d hd] at W1
    clear hd
    go_enter Tryd.func5, Tryd.ntmps5
    go_upto_region 6 with (first
      | (go_at_call 10; refine (alive03 _).mono ?_; rintro e w' ⟨rfl, rfl⟩)
      | (go_at_call 26; refine (L1.out _ (HE.out.one 0 (by decide))).mono ?_; rintro e w1 ⟨rfl, hb1⟩)
      | (go_at_call 27; refine (L2.out _ ((HE.out.same hb1).one 0 (by decide))).mono ?_; rintro e w2 ⟨rfl, hb2⟩)
      | (go_at_call 28; refine (L3.out _).mono ?_; rintro e w3 ⟨rfl, hb3⟩))
    have hbx := hb1.trans (hb2.mono hb1.size)
    have hby := hbx.trans (hb3.mono hbx.size)
    have HE1 := Lib.hid (HE.out.same hby)
    have HB1 := Lib.hid hby
    clear hb1 hb2 hb3 hbx hby HE
    refine region_seq (C := Below w3.heap.size w3) (Below.refl _ _) ?_
    have HC0 : Below w3.heap.size w3 w3 := Below.refl _ _
    open BigFrame in
    repeat (first | go_big_quiet_skip | (go_big_quiet_want; first | (apply quiet_one (hC := HC0); exact rfl; exact Nat.le_of_ble_eq_true rfl; (focus (intro w' hw'; skip; go_big_quiet_op; with_reducible exact rfl)); go_big_quiet_on) | (go_big_quiet_op; apply Exists.intro; refine ⟨fun w' hw' => ?_, ?_⟩; (focus (skip; first | ((with_reducible exact quiet_call hw' (num_range ea _ (HE1.out.same hw')))) | ((have X := W1.out _ ((HE1.out.same hw').one 0 (by decide)); with_reducible exact quiet_call hw' X)))); go_big_quiet_on)))
    refine wpQuiet_nil ?_
    intro w5 hb5
    go_wp2
    go_ret
    exact ⟨rfl, HB1.out.trans (hb5.mono HB1.out.size)⟩

end Go.Proofs.YtacdbgoffepaaaaDoor
