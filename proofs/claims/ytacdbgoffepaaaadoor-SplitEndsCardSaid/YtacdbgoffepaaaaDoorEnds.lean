/-
  The reference's least and greatest hash of a top: the walk.
-/
import Derived.Test.YtacdbgoffepaaaaDoorBits
namespace Go.Proofs.YtacdbgoffepaaaaDoor
open Go.RowKit

/-- The least hash of a top p at depth D, and the greatest. -/
def lowI (p : Int) (D : Nat) : Int := p * 2 ^ (64 - D)
def highI (p : Int) (D : Nat) : Int := p * 2 ^ (64 - D) + (2 ^ (64 - D) - 1)
theorem bit_low_in (p : Int) (D i : Nat) (hi : i < D) (hD : D ≤ 64) : bitAt (lowI p D) i = p / 2 ^ (D - 1 - i) % 2 := by
  unfold bitAt lowI
  have e : 63 - i = (64 - D) + (D - 1 - i) := by omega
  rw [e, Int.pow_add, Int.mul_comm p, Int.mul_ediv_mul_of_pos _ _ (Int.pow_pos (by decide))]
theorem bit_low_out (p : Int) (D i : Nat) (hi : D ≤ i) (h64 : i < 64) : bitAt (lowI p D) i = 0 := by
  unfold bitAt lowI
  have e : 64 - D = (i - D) + 1 + (63 - i) := by omega
  rw [e, Int.pow_add, ← Int.mul_assoc, Int.mul_ediv_cancel _ (Int.ne_of_gt (Int.pow_pos (by decide))), Int.pow_succ, ← Int.mul_assoc]
  omega
theorem bit_high_in (p : Int) (D i : Nat) (hi : i < D) (hD : D ≤ 64) : bitAt (highI p D) i = bitAt (lowI p D) i := by
  rw [bit_low_in p D i hi hD]
  unfold bitAt highI
  have e : 63 - i = (64 - D) + (D - 1 - i) := by omega
  have hp : (0 : Int) < 2 ^ (64 - D) := Int.pow_pos (by decide)
  rw [e, Int.pow_add, ← Int.ediv_ediv_of_nonneg (Int.le_of_lt hp)]
  have : (p * 2 ^ (64 - D) + (2 ^ (64 - D) - 1)) / 2 ^ (64 - D) = p := by
    rw [Int.add_comm, Int.add_mul_ediv_right _ _ (Int.ne_of_gt hp), Int.ediv_eq_zero_of_lt (by omega) (by omega)]
    omega
  rw [this]
theorem bit_high_out (p : Int) (D i : Nat) (hi : D ≤ i) (h64 : i < 64) : bitAt (highI p D) i = 1 := by
  unfold bitAt highI
  have hp : (0 : Int) < 2 ^ (63 - i) := Int.pow_pos (by decide)
  have e : (2 : Int) ^ (64 - D) = 2 ^ (i - D) * 2 * 2 ^ (63 - i) := by
    rw [← Int.pow_succ, ← Int.pow_add, show i - D + 1 + (63 - i) = 64 - D by omega]
  have e2 : p * 2 ^ (64 - D) + (2 ^ (64 - D) - 1) = (2 ^ (63 - i) - 1) + (p * (2 ^ (i - D) * 2) + 2 ^ (i - D) * 2 - 1) * 2 ^ (63 - i) := by
    rw [e, Int.sub_mul, Int.add_mul, Int.one_mul, Int.mul_assoc p]
    omega
  rw [e2, Int.add_mul_ediv_right _ _ (Int.ne_of_gt hp), Int.ediv_eq_zero_of_lt (by omega) (by omega), Int.zero_add]
  have : p * (2 ^ (i - D) * 2) = (p * 2 ^ (i - D)) * 2 := by rw [Int.mul_assoc]
  omega
theorem low_start (p : Int) (D : Nat) (hD : D ≤ 64) : bitArr (lowI p D) (64 - D) = zeros := by
  rw [← bitArr_zero 0]
  apply Array.ext_getElem?
  intro i
  by_cases hi : i < 64
  · rw [bitArr_get _ _ _ hi, bitArr_get _ _ _ hi]
    by_cases a : D ≤ i
    · rw [bit_low_out p D i a hi]; simp; omega
    · rw [if_neg (by omega), if_neg (by omega)]
  · rw [Array.getElem?_eq_none (by simp [bitArr_size]; omega), Array.getElem?_eq_none (by simp [bitArr_size]; omega)]

/-- The places below j hold h's bits, the others l's. -/
def mixArr (l h : Int) (j : Nat) : Array Value := Array.ofFn (n := 64) fun i => .int .i64 (if i.val < j then bitAt h i.val else bitAt l i.val)
theorem mixArr_size (l h : Int) (j : Nat) : (mixArr l h j).size = 64 := by simp [mixArr]
theorem mixArr_get (l h : Int) (j i : Nat) (hi : i < 64) : (mixArr l h j)[i]? = some (.int .i64 (if i < j then bitAt h i else bitAt l i)) := by
  unfold mixArr
  rw [Array.getElem?_eq_getElem (by simpa using hi)]
  simp
theorem mix_start (p : Int) (D : Nat) (hD : D ≤ 64) : mixArr (lowI p D) (highI p D) D = bitArr (lowI p D) 64 := by
  apply Array.ext_getElem?
  intro i
  by_cases hi : i < 64
  · rw [mixArr_get _ _ _ _ hi, bitArr_get _ _ _ hi, if_pos (show 64 - 64 ≤ i by omega)]
    by_cases a : i < D
    · rw [if_pos a, bit_high_in p D i a hD]
    · rw [if_neg a]
  · rw [Array.getElem?_eq_none (by simp [mixArr_size]; omega), Array.getElem?_eq_none (by simp [bitArr_size]; omega)]
theorem mix_end (l h : Int) : mixArr l h 64 = bitArr h 64 := by
  apply Array.ext_getElem?
  intro i
  by_cases hi : i < 64
  · rw [mixArr_get _ _ _ _ hi, bitArr_get _ _ _ hi, if_pos (show 64 - 64 ≤ i by omega), if_pos hi]
  · rw [Array.getElem?_eq_none (by simp [mixArr_size]; omega), Array.getElem?_eq_none (by simp [bitArr_size]; omega)]
theorem mix_step (l h : Int) (j : Nat) (hj : j < 64) (h1 : bitAt h j = 1) : (mixArr l h j).setIfInBounds j (.int .i64 1) = mixArr l h (j + 1) := by
  apply Array.ext_getElem?
  intro i
  by_cases hi : i < 64
  · rw [Array.getElem?_setIfInBounds, mixArr_get _ _ _ _ hi, mixArr_get _ _ _ _ hi, mixArr_size]
    by_cases e : j = i
    · subst e
      simp [h1, hj]
    · rw [if_neg e]
      by_cases a : i < j
      · rw [if_pos a, if_pos (by omega)]
      · rw [if_neg a, if_neg (by omega)]
  · rw [Array.getElem?_eq_none (by simp [mixArr_size]; omega), Array.getElem?_eq_none (by simp [mixArr_size]; omega)]

theorem refEnds_bad1 (p d : Int) (w : World) (hd : d < 0 ∨ 16 < d ∨ p < 0) :
    Calls Tryd.prog 28 #[.int .i64 p, .int .i64 d] w fun e w' => e = .returned (.tuple #[.int .u64 0, .int .u64 0, .int .i64 1]) ∧ Below w.heap.size w w' := by
  by_cases a : d < 0
  · clear hd
    go_enter Tryd.func28, Tryd.ntmps28
    go_wp2
    go_ret3
    exact ⟨rfl, Below.refl _ _⟩
  · by_cases b : 16 < d
    · clear hd
      go_enter Tryd.func28, Tryd.ntmps28
      go_wp2
      go_ret3
      exact ⟨rfl, Below.refl _ _⟩
    · have c : p < 0 := by omega
      clear hd
      go_enter Tryd.func28, Tryd.ntmps28
      go_wp2
      go_ret3
      exact ⟨rfl, Below.refl _ _⟩

set_option maxHeartbeats 1000000 in
set_option maxRecDepth 100000 in
theorem refEnds_bad2 (p : Int) (D : Nat) (w : World) (hD : D ≤ 16) (hp0 : 0 ≤ p) (hp : 2 ^ D ≤ p) :
    Calls Tryd.prog 28 #[.int .i64 p, .int .i64 D] w fun e w' => e = .returned (.tuple #[.int .u64 0, .int .u64 0, .int .i64 1]) ∧ Below w.heap.size w w' := by
  have d0 : (0 : Int) ≤ D := by omega
  have d1 : (D : Int) ≤ 16 := by omega
  have HP := Lib.hid hp
  clear hp
  go_enter Tryd.func28, Tryd.ntmps28
  go_wp2_with fail
  go_loop [7, 8] (fun m i => ∃ k : Nat, k ≤ D ∧ i = .int .i64 k ∧ m = .int .i64 (2 ^ k)) (fun _ i => D - (intOf i).toNat)
  case atStart => exact ⟨0, by omega, rfl, rfl⟩
  case round =>
    obtain ⟨k, hk, rfl, rfl⟩ := hrel
    have hb := pow_le16 (k : Int) (by omega)
    rw [Int.toNat_natCast] at hb
    have hb0 : (0 : Int) < 2 ^ k := Int.pow_pos (by decide)
    by_cases hlt : k < D
    · have HS := Lib.hid (show (2 : Int) ^ (k + 1) = 2 ^ k * 2 from Int.pow_succ _ _)
      generalize (2 : Int) ^ k = M at *
      go_wp2
      go_round
      case rel => exact ⟨k + 1, by omega, by go_num, by rw [HS.out]⟩
      case measure => simp [intOf]; omega
    · obtain rfl : k = D := by omega
      have hp := HP.out
      clear HP
      generalize (2 : Int) ^ k = M at *
      go_wp2
      go_ret3
      exact ⟨rfl, Below.refl _ _⟩

set_option maxHeartbeats 1000000 in
set_option maxRecDepth 100000 in
theorem refEnds_yes (p : Int) (D : Nat) (w : World) (hD : D ≤ 16) (hp0 : 0 ≤ p) (hp : p < 2 ^ D) :
    Calls Tryd.prog 28 #[.int .i64 p, .int .i64 D] w fun e w' => e = .returned (.tuple #[.int .u64 (lowI p D), .int .u64 (highI p D), .int .i64 0]) ∧ Below w.heap.size w w' := by
  have d0 : (0 : Int) ≤ D := by omega
  have d1 : (D : Int) ≤ 16 := by omega
  have HV := Lib.hid (low_val p D (show Pref p D from ⟨d0, d1, hp0, by rw [Int.toNat_natCast]; exact hp⟩))
  have HP := Lib.hid hp
  clear hp
  go_enter Tryd.func28, Tryd.ntmps28
  go_wp2_with fail
  go_loop [7, 8] (fun m i => ∃ k : Nat, k ≤ D ∧ i = .int .i64 k ∧ m = .int .i64 (2 ^ k)) (fun _ i => D - (intOf i).toNat)
  case atStart => exact ⟨0, by omega, rfl, rfl⟩
  case round =>
    obtain ⟨k, hk, rfl, rfl⟩ := hrel
    have hb := pow_le16 (k : Int) (by omega)
    rw [Int.toNat_natCast] at hb
    have hb0 : (0 : Int) < 2 ^ k := Int.pow_pos (by decide)
    by_cases hlt : k < D
    · have HS := Lib.hid (show (2 : Int) ^ (k + 1) = 2 ^ k * 2 from Int.pow_succ _ _)
      generalize (2 : Int) ^ k = M at *
      go_wp2
      go_round
      case rel => exact ⟨k + 1, by omega, by go_num, by rw [HS.out]⟩
      case measure => simp [intOf]; omega
    · obtain rfl : k = D := by omega
      have hp := HP.out
      clear HP
      generalize (2 : Int) ^ k = M at *
      go_upto_region 10 with fail
      go_cut [9, 10] (fun s9 s10 wx => s9 = .pointer (some ⟨w.heap.size, 0, none⟩) ∧ s10 = .pointer (some ⟨w.heap.size + 1, 0, none⟩) ∧ Blk wx w.heap.size 24 zeros ∧ Blk wx (w.heap.size + 1) 24 zeros ∧ Below w.heap.size w wx)
      case first =>
        go_wp2_with (first
          | (refine wpList_store_row rfl 24 (.tmp 9) (.tmp 34) rfl w.heap.size _ rfl rfl 24 _ (heap_alloc2_old _ _ _) size24 rfl (by kernel_rfl) ?_)
          | (refine wpList_store_row rfl 24 (.tmp 10) (.tmp 35) rfl (w.heap.size + 1) _ rfl rfl 24 _ ((setRow_other _ w.heap.size (w.heap.size + 1) _ (by omega)).trans (heap_alloc2_new _ _ _)) size24 rfl (by kernel_rfl) ?_))
        go_meet
        refine ⟨rfl, rfl, ?_, ?_, ?_⟩
        · exact (setRow_other _ (w.heap.size + 1) w.heap.size _ (by omega)).trans (setRow_heap _ _ _ _ _ _ (heap_alloc2_old w _ _))
        · exact setRow_heap _ _ _ _ _ _ ((setRow_other _ w.heap.size (w.heap.size + 1) _ (by omega)).trans (heap_alloc2_new w _ _))
        · exact below_setRow (below_setRow (((Below.refl _ _).alloc (Nat.le_refl _) _).alloc (by simp) _) (Nat.le_refl _) _) (by omega) _
      case rest =>
        obtain ⟨rfl, rfl, hB0, hB1, hb2⟩ := hcut
        have HV2 := Lib.hid (show (lowI p k).toNat < 18446744073709551616 ∧ 0 ≤ lowI p k ∧ highI p k < 18446744073709551616 ∧ 0 ≤ highI p k by
          have hv := HV.out
          have e : (64 - (k : Int)).toNat = 64 - k := by omega
          rw [e] at hv
          have hq : (0 : Int) < 2 ^ (64 - k) := Int.pow_pos (by decide)
          unfold lowI highI
          omega)
        clear HV hp
        go_wp2_with fail
        go_loopw [11, 12] (fun n i wr => ∃ J : Nat, J ≤ k ∧ n = .int .i64 (p / 2 ^ (k - J)) ∧ i = .int .i64 ((J : Int) - 1) ∧ Blk wr w.heap.size 24 (bitArr (lowI p k) (64 - J)) ∧ Blk wr (w.heap.size + 1) 24 (bitArr (lowI p k) (64 - J)) ∧ Below w.heap.size w wr) (fun _ i _ => (intOf i + 1).toNat)
        case atStart => exact ⟨k, by omega, by simp, rfl, by rw [low_start p k (by omega)]; exact hB0, by rw [low_start p k (by omega)]; exact hB1, hb2⟩
        case round =>
          obtain ⟨J, hJ, rfl, rfl, hR0, hR1, hbr⟩ := hrel
          have hX0 := (shr_lt p hp0 (k - J)).1
          have hX1 := (shr_lt p hp0 (k - J)).2
          cases J with
          | succ m =>
            have em : (((m + 1 : Nat) : Int) - 1) = (m : Int) := by omega
            rw [em]
            have hc0 : wr.cell? ⟨w.heap.size, m, none⟩ = some (.int .i64 0) := by
              rw [hR0.cell, bitArr_get _ _ _ (by omega), if_neg (by omega)]
            have hc1 : wr.cell? ⟨w.heap.size + 1, m, none⟩ = some (.int .i64 0) := by
              rw [hR1.cell, bitArr_get _ _ _ (by omega), if_neg (by omega)]
            have hf0 : wr.frozen? ⟨w.heap.size, m, none⟩ = false := hR0.free _
            have hf1 : wr.frozen? ⟨w.heap.size + 1, m, none⟩ = false := hR1.free _
            have hbit : bitAt (lowI p k) m = p / 2 ^ (k - (m + 1)) % 2 := by
              rw [bit_low_in p k m (by omega) (by omega), show k - 1 - m = k - (m + 1) by omega]
            have hnext : p / 2 ^ (k - m) = p / 2 ^ (k - (m + 1)) / 2 := by
              rw [show k - m = (k - (m + 1)) + 1 by omega, Int.pow_succ, Int.ediv_ediv_of_nonneg (Int.pow_nonneg (by decide))]
            have HS := Lib.hid (And.intro hnext (And.intro hbit (And.intro hR0 (And.intro hR1 hbr))))
            clear hnext hbit hR0 hR1 hbr hB0 hB1 hb2
            have hm : m < 64 := by omega
            have hb2 : 0 ≤ p / 2 ^ (k - (m + 1)) % 2 ∧ p / 2 ^ (k - (m + 1)) % 2 ≤ 1 := by omega
            obtain ⟨hb2, hb3⟩ := hb2
            generalize p / 2 ^ (k - (m + 1)) = X at *
            have hX2 : X < 65536 := by omega
            go_wp2
            go_roundw
            case rel =>
              obtain ⟨e1, e2, q0, q1, q2⟩ := HS.out
              have st := bitArr_step (lowI p k) (63 - m) (by omega)
              rw [show 63 - (63 - m) = m by omega, e2, show 63 - m + 1 = 64 - m by omega, show 63 - m = 64 - (m + 1) by omega] at st
              refine ⟨m, by omega, by rw [e1], rfl, ?_, ?_, (q2.setCell (by simp) _).setCell (by simp) _⟩
              · have := (q0.set_ m (.int .i64 (X % 2))).far (p := ⟨w.heap.size + 1, m, none⟩) (by simp) (.int .i64 (X % 2))
                rw [st] at this
                exact this
              · have := (q1.far (p := ⟨w.heap.size, m, none⟩) (by simp) (.int .i64 (X % 2))).set_ m (.int .i64 (X % 2))
                rw [st] at this
                exact this
            case measure => simp [intOf]
          | zero =>
            clear hX0 hX1 hB0 hB1 hb2
            rw [Nat.sub_zero] at hR0 hR1
            have HS := Lib.hid (And.intro hR0 (And.intro hR1 hbr))
            clear hR0 hR1 hbr
            generalize p / 2 ^ (k - 0) = X at *
            go_wp2_with fail
            go_loopw [13] (fun i wr => ∃ j : Nat, k ≤ j ∧ j ≤ 64 ∧ i = .int .i64 j ∧ Blk wr w.heap.size 24 (bitArr (lowI p k) 64) ∧ Blk wr (w.heap.size + 1) 24 (mixArr (lowI p k) (highI p k) j) ∧ Below w.heap.size w wr) (fun i _ => 64 - (intOf i).toNat)
            case atStart => exact ⟨k, by omega, by omega, rfl, HS.out.1, by rw [mix_start p k (by omega)]; exact HS.out.2.1, HS.out.2.2⟩
            case round =>
              obtain ⟨j, hj, hj2, rfl, hR0, hR1, hbr⟩ := hrel
              by_cases hlt : j < 64
              · have hc1 : wr.cell? ⟨w.heap.size + 1, j, none⟩ = some (.int .i64 (bitAt (lowI p k) j)) := by
                  rw [hR1.cell, mixArr_get _ _ _ _ hlt, if_neg (by omega)]
                have hf1 : wr.frozen? ⟨w.heap.size + 1, j, none⟩ = false := hR1.free _
                have HT := Lib.hid (And.intro hR0 (And.intro hR1 hbr))
                clear hR0 hR1 hbr
                go_wp2
                go_roundw
                case rel =>
                  obtain ⟨q0, q1, q2⟩ := HT.out
                  have st := mix_step (lowI p k) (highI p k) j hlt (bit_high_out p k j hj hlt)
                  refine ⟨j + 1, by omega, by omega, by go_num, q0.far (by simp) _, ?_, q2.setCell (by simp) _⟩
                  have := q1.set_ j (.int .i64 1)
                  rw [st] at this
                  exact this
                case measure => simp [intOf]; omega
              · obtain rfl : j = 64 := by omega
                rw [mix_end] at hR1
                have HT := Lib.hid (And.intro hR0 (And.intro hR1 hbr))
                clear hR0 hR1 hbr HS hlt hj hj2
                have N1 := Lib.hid (fun b cap W => number_take (lowI p k) (by have := HV2.out; omega) HV2.out.2.1 64 (by decide) b cap W)
                have N2 := Lib.hid (fun b cap W => number_take (highI p k) HV2.out.2.2.1 HV2.out.2.2.2 64 (by decide) b cap W)
                simp only [Nat.sub_self, Int.pow_zero, Int.ediv_one] at N1 N2
                go_upto_region 21 with fail
                refine region_all (C := Below wr.heap.size wr) (by kernel_rfl) (by kernel_rfl) (below_drew _) ?_
                have HC0 : Below wr.heap.size wr wr := Below.refl _ _
                open BigFrame in
                repeat (first | go_big_quiet_skip | (go_big_quiet_want; first | (apply quiet_one (hC := HC0); exact rfl; exact Nat.le_of_ble_eq_true rfl; (focus (intro w' hw'; skip; go_big_quiet_op; with_reducible exact rfl)); go_big_quiet_on) | (go_big_quiet_op; apply Exists.intro; refine ⟨fun w' hw' => ?_, ?_⟩; (focus (skip; first | ((with_reducible exact quiet_call_same hw' (N1.out _ _ _ (HT.out.1.below hw')))) | ((with_reducible exact quiet_call_same hw' (N2.out _ _ _ (HT.out.2.1.below hw')))))); go_big_quiet_on)))
                refine wpQuiet_nil ?_
                intro w5 hb5
                go_wp2
                go_ret3
                exact ⟨rfl, HT.out.2.2.trans (hb5.mono HT.out.2.2.size)⟩

end Go.Proofs.YtacdbgoffepaaaaDoor
