/-
  Text of both: by contracts.
-/
import Derived.Test.YtnakfnkmdiekhaaDoorHex
import Derived.Test.YtnakfnkmdiekhaaDoorRepeat
namespace Go.Proofs.YtnakfnkmdiekhaaDoor
open Go.RowKit Ieee

theorem hexStr_size (u n : Nat) : (hexStr u n).size = n := by simp [hexStr, ByteArray.size]
theorem hexD_zero : hexD 0 = 48 := by decide
theorem div_zero_of (u n j : Nat) (h : u / 16 ^ n = 0) (hj : n ≤ j) : u / 16 ^ j = 0 := by
  have h1 : u < 16 ^ n := by
    rcases Nat.lt_or_ge u (16 ^ n) with c | c
    · exact c
    · have := Nat.div_pos c (Nat.pow_pos (by decide))
      omega
  exact Nat.div_eq_of_lt (Nat.lt_of_lt_of_le h1 (Nat.pow_le_pow_right (by decide) hj))
theorem pad_list (u n : Nat) (hn : n ≤ 16) (h : u / 16 ^ n = 0) : List.replicate (16 - n) (48 : UInt8) ++ (List.range n).map (fun i => hexD (u / 16 ^ (n - 1 - i) % 16)) = (List.range 16).map (fun i => hexD (u / 16 ^ (16 - 1 - i) % 16)) := by
  apply List.ext_getElem
  · simp; omega
  · intro i h1 h2
    simp at h2
    by_cases hi : i < 16 - n
    · rw [List.getElem_append_left (by simpa using hi)]
      simp only [List.getElem_replicate, List.getElem_map, List.getElem_range]
      rw [div_zero_of u n (16 - 1 - i) h (by omega)]
      exact hexD_zero.symm
    · rw [List.getElem_append_right (by simp; omega)]
      simp only [List.getElem_map, List.getElem_range, List.length_replicate]
      rw [show n - 1 - (i - (16 - n)) = 16 - 1 - i by omega]
theorem repeat_zero (c : Nat) : Lib.repeatL [48] c = List.replicate c 48 := by
  have := Lib.repeatL_replicate 48 1 c
  simpa using this
theorem pad_str (u n : Nat) (hn : n ≤ 16) (h : u / 16 ^ n = 0) : (⟨(Lib.repeatL [48] (16 - n)).toArray⟩ : ByteArray) ++ hexStr u n = hexStr u 16 := by
  rw [repeat_zero]
  have := pad_list u n hn h
  unfold hexStr
  apply ByteArray.ext
  simp only [ByteArray.data_append]
  rw [← this]
  simp

def negW (b : Nat) : Nat := if 9223372036854775808 ≤ b then b - 9223372036854775808 else b + 9223372036854775808
theorem xor_top (r : Nat) (h : r < 9223372036854775808) : r ^^^ 9223372036854775808 = r + 9223372036854775808 := by
  apply Nat.eq_of_testBit_eq
  intro j
  have e : r + 9223372036854775808 = 2 ^ 63 * 1 + r := by omega
  rw [e, Nat.testBit_two_pow_mul_add 1 (show r < 2 ^ 63 by omega) j, Nat.testBit_xor, show 9223372036854775808 = 2 ^ 63 by decide, Nat.testBit_two_pow]
  by_cases hj : j < 63
  · rw [if_pos hj]
    have h1 : ¬ 63 = j := by omega
    simp [h1]
  · rw [if_neg hj, Nat.testBit_lt_two_pow (Nat.lt_of_lt_of_le (show r < 2 ^ 63 by omega) (Nat.pow_le_pow_right (by decide) (by omega)))]
    by_cases h63 : j = 63
    · subst h63; decide
    · have h1 : ¬ 63 = j := by omega
      have h2 : (1 : Nat).testBit (j - 63) = false := Nat.testBit_lt_two_pow (Nat.one_lt_two_pow (by omega))
      rw [h2]
      simp [h1]
theorem neg_run (b : Nat) (hb : b < 18446744073709551616) (w : World) : (Op.unary .neg (.float .f64 b)).run Tryd.prog w = .ok (.float .f64 (negW b)) w := by
  have e : Op.negFloat .f64 b = negW b := by
    show b ^^^ 9223372036854775808 = negW b
    unfold negW
    split
    · have h := xor_top (b - 9223372036854775808) (by omega)
      rw [show b - 9223372036854775808 + 9223372036854775808 = b by omega] at h
      rw [← h, Nat.xor_assoc, Nat.xor_self, Nat.xor_zero]
      omega
    · exact xor_top b (by omega)
  show (pure (.float .f64 (Op.negFloat .f64 b)) : Sem Value).run Tryd.prog w = _
  rw [e]
  rfl
theorem isInf_neg (b : Nat) (hb : b < 18446744073709551616) (w : World) :
    Calls Tryd.prog 29 #[.float .f64 b, .int .i64 (-1)] w fun e w' => e = .returned (.bool (decide (b = 18442240474082181120))) ∧ w = w' := by
  have hn : negW b < 18446744073709551616 := by unfold negW; split <;> omega
  have h := max_of (negW b) hn
  have e : decide (negW b = 9218868437227405312) = decide (b = 18442240474082181120) := by
    rw [decide_eq_decide]
    unfold negW
    split <;> omega
  have hu := neg_run b hb
  rw [e] at h
  clear hb hn e
  generalize negW b = m at *
  go_enter Tryd.func29, Tryd.ntmps29
  go_wp2
  go_ret
  refine ⟨?_, rfl⟩
  rw [← h]
  rfl

def textW (b : Nat) : ByteArray := if nanW b then ⟨#[110, 97, 110]⟩ else if b = 9218868437227405312 then ⟨#[43, 105, 110, 102]⟩ else if b = 18442240474082181120 then ⟨#[45, 105, 110, 102]⟩ else hexStr (form b) 16

theorem text_c (b : Nat) (hb : b < 18446744073709551616) (w : World) (hT : TabAt w) :
    Calls Tryd.prog 15 #[.float .f64 b] w fun e w' => e = .returned (.string (textW b)) ∧ Below w.heap.size w w' := by
  have HN := Lib.hid (isNaN_c b hb)
  have HP := Lib.hid (isInf_pos b hb)
  have HM := Lib.hid (isInf_neg b hb)
  have HB := Lib.hid (bits_c b hb)
  have HF := Lib.hid (fun W hT => format_c (form b) W (form_lt b hb) hT)
  have HT := Lib.hid hT
  unfold textW
  clear hT
  by_cases h1 : nanW b = true
  · rw [if_pos h1]
    rw [h1] at HN
    clear h1 hb
    go_enter Tryd.func15, Tryd.ntmps15
    go_wp2_with (go_at_call 27; refine (HN.out _).mono ?_; rintro e w1 ⟨rfl, rfl⟩)
    go_ret
    exact ⟨rfl, Below.refl _ _⟩
  · have h1' : nanW b = false := by simpa using h1
    rw [h1'] at HN
    rw [if_neg h1]
    by_cases h2 : b = 9218868437227405312
    · rw [if_pos h2]
      rw [decide_eq_true h2] at HP
      clear h1 h1' h2 hb
      go_enter Tryd.func15, Tryd.ntmps15
      go_wp2_with (first | (go_at_call 27; refine (HN.out _).mono ?_; rintro e w1 ⟨rfl, rfl⟩) | (go_at_call 29; refine (HP.out _).mono ?_; rintro e w1 ⟨rfl, rfl⟩))
      go_ret
      exact ⟨rfl, Below.refl _ _⟩
    · rw [if_neg h2]
      rw [decide_eq_false h2] at HP
      by_cases h3 : b = 18442240474082181120
      · rw [if_pos h3]
        rw [decide_eq_true h3] at HM
        clear h1 h1' h2 h3 hb
        go_enter Tryd.func15, Tryd.ntmps15
        go_upto_region 5 with (first | (go_at_call 27; refine (HN.out _).mono ?_; rintro e w1 ⟨rfl, rfl⟩) | (go_at_call 29; refine (HP.out _).mono ?_; rintro e w1 ⟨rfl, rfl⟩))
        go_wp2_with (go_at_call 29; refine (HM.out _).mono ?_; rintro e w1 ⟨rfl, rfl⟩)
        go_ret
        exact ⟨rfl, Below.refl _ _⟩
      · rw [if_neg h3]
        rw [decide_eq_false h3] at HM
        clear h1 h1' h2 h3 hb
        generalize form b = u at *
        go_enter Tryd.func15, Tryd.ntmps15
        go_upto_region 5 with (first | (go_at_call 27; refine (HN.out _).mono ?_; rintro e w1 ⟨rfl, rfl⟩) | (go_at_call 29; refine (HP.out _).mono ?_; rintro e w1 ⟨rfl, rfl⟩))
        go_upto_region 8 with (first | (go_at_call 29; refine (HM.out _).mono ?_; rintro e w1 ⟨rfl, rfl⟩) | (go_at_call 12; refine (HB.out _).mono ?_; rintro e w1 ⟨rfl, rfl⟩) | (go_at_call 30; refine (HF.out _ HT.out).mono ?_; rintro e w1 ⟨n, k1, k2, k3, rfl, hb1⟩))
        have hsz := hexStr_size u n
        have HS := Lib.hid (And.intro (pad_str u n k2 k3) hb1)
        have HR := Lib.hid (fun W => repeat_c ⟨#[48]⟩ (16 - n) W (by omega) (by decide))
        have hn : (16 : Int) - (n : Int) = ((16 - n : Nat) : Int) := by omega
        have hnn : (n : Int) ≤ 16 := by omega
        clear k1 k2 k3 hb1
        have hrs : (⟨(Lib.repeatL [48] (16 - n)).toArray⟩ : ByteArray).size = 16 - n := by
          rw [repeat_zero]; simp [ByteArray.size]
        have HR2 : Hid (∀ w : World, Calls Tryd.prog 31 #[.string ⟨#[48]⟩, .int .i64 (16 - n : Nat)] w fun e w' => e = .returned (.string ⟨(Lib.repeatL [48] (16 - n)).toArray⟩) ∧ Below w.heap.size w w') := Lib.hid (fun w => HR.out w)
        clear HR
        generalize hexStr u n = S at *
        generalize (⟨(Lib.repeatL [48] (16 - n)).toArray⟩ : ByteArray) = R at *
        have hle : n ≤ 16 := by omega
        go_wp2_with (go_at_call 31; refine (HR2.out _).mono ?_; rintro e w2 ⟨rfl, hb2⟩)
        go_ret
        exact ⟨by rw [← HS.out.1]; rfl, HS.out.2.trans (hb2.mono HS.out.2.size)⟩
end Go.Proofs.YtnakfnkmdiekhaaDoor
