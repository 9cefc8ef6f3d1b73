/-
  The document's text of a float: the walk.
-/
import Derived.Test.YtnakfnkmdiekhaaDoorText
namespace Go.Proofs.YtnakfnkmdiekhaaDoor
open Go.RowKit Ieee

theorem hexStr_step (u k : Nat) : (⟨#[hexD (u / 16 ^ k % 16)]⟩ : ByteArray) ++ hexStr u k = hexStr u (k + 1) := by
  unfold hexStr
  apply ByteArray.ext
  simp only [ByteArray.data_append]
  have : (List.range (k + 1)).map (fun i => hexD (u / 16 ^ (k + 1 - 1 - i) % 16)) = [hexD (u / 16 ^ k % 16)] ++ (List.range k).map (fun i => hexD (u / 16 ^ (k - 1 - i) % 16)) := by
    rw [List.range_succ_eq_map]
    simp only [List.map_cons, List.map_map, Nat.sub_zero, Nat.add_sub_cancel, List.singleton_append]
    congr 1
    apply List.map_congr_left
    intro i hi
    simp only [Function.comp]
    rw [show k - (i + 1) = k - 1 - i by omega]
  rw [this]
  simp
theorem hexStr_zero (u : Nat) : hexStr u 0 = ⟨#[]⟩ := rfl

def digits16 : ByteArray := ⟨#[48, 49, 50, 51, 52, 53, 54, 55, 56, 57, 97, 98, 99, 100, 101, 102]⟩
theorem digit_cut (d : Nat) (hd : d < 16) : digits16.extract d (d + 1) = ⟨#[hexD d]⟩ := by
  have h : (List.range 16).all (fun d => (digits16.extract d (d + 1)).data == #[hexD d]) = true := by decide +kernel
  have := List.all_eq_true.1 h d (List.mem_range.2 hd)
  apply ByteArray.ext
  simpa using this
theorem digit_slice (L : ByteArray) (hL : digits16 = L) (d : Nat) (hd : d < 16) (w : World) : (Instr.slice 9 (.string L) (some (.int .u64 (d : Int))) (some (.int .u64 ((d : Int) + 1))) none).run Tryd.prog w = .ok (.string ⟨#[hexD d]⟩) w := by
  subst hL
  have h := run_slice_string (P := Tryd.prog) w 9 digits16 .u64 .u64 (d : Int) ((d : Int) + 1) Tryd.underlying9 (by omega) (by omega) (by show (d : Int) + 1 ≤ ((16 : Nat) : Int); omega)
  rw [h]
  have e : ((d : Int) + 1).toNat = d + 1 := by omega
  rw [e, Int.toNat_natCast, digit_cut d hd]

set_option maxHeartbeats 1000000 in
set_option maxRecDepth 100000 in
theorem digits_c (b f : Nat) (w : World) (hf : Hid (f < 18446744073709551616)) (HF : Hid (∀ w, Calls Tryd.prog 9 #[.int .u64 (b : Int)] w fun e w' => e = .returned (.int .u64 (f : Int)) ∧ w = w'))
    (h1 : ((f : Int) == 9221120237041090560) = false) (h2 : ((f : Int) == 9218868437227405312) = false) (h3 : ((f : Int) == 18442240474082181120) = false) :
    Calls Tryd.prog 16 #[.int .u64 (b : Int)] w fun e w' => e = .returned (.string (hexStr f 16)) ∧ w = w' := by
  go_enter Tryd.func16, Tryd.ntmps16
  go_upto_region 9 with (go_at_call 9; refine (HF.out _).mono ?_; rintro e w1 ⟨rfl, rfl⟩)
  clear h1 h2 h3
  go_wp2_with fail
  go_loopw [3, 4, 5] (fun s3 s4 s5 wr => ∃ k : Nat, k ≤ 16 ∧ s3 = .int .u64 ((f / 16 ^ k : Nat) : Int) ∧ s4 = .string (hexStr f k) ∧ s5 = .int .i64 k ∧ wr = w) (fun _ _ i _ => 16 - (intOf i).toNat)
  case atStart => exact ⟨0, by omega, by simp, rfl, rfl, rfl⟩
  case round =>
    obtain ⟨k, hk, rfl, rfl, rfl, rfl⟩ := hrel
    have hnext : f / 16 ^ (k + 1) = f / 16 ^ k / 16 := by rw [Nat.pow_succ, Nat.div_div_eq_div_mul]
    have hst := hexStr_step f k
    have hsz := hexStr_size f k
    have HXb := Lib.hid (Nat.lt_of_le_of_lt (Nat.div_le_self f (16 ^ k)) hf.out)
    by_cases hlt : k < 16
    · have HN := Lib.hid (And.intro hnext hst)
      clear hnext hst
      generalize f / 16 ^ k = X at *
      generalize hS : hexStr f k = S at *
      have hk16 : (k : Int) < 16 := by omega
      have hS2 : S.size ≤ 16 := by omega
      clear hS
      go_upto_region 14 with fail
      go_name_bytes_deep 12 L hL
      rw [show (X : Int) % 16 = ((X % 16 : Nat) : Int) by simp]
      have hd : X % 16 < 16 := by omega
      have HX := Lib.hid (show IntKind.u64.wrap ((X : Int) / 16) = ((X / 16 : Nat) : Int) by have h := HXb.out; rw [wrap_u64]; omega)
      generalize X % 16 = d at *
      have hsl := digit_slice L hL d hd
      have hd16 : (d : Int) < 16 := by omega
      generalize hB : (⟨#[hexD d]⟩ : ByteArray) = B at *
      have hBs : B.size = 1 := by rw [← hB]; rfl
      clear hB hL hd
      go_wp2
      go_roundw
      case rel => exact ⟨k + 1, by omega, int_eq (by rw [HN.out.1]; exact HX.out), by rw [← HN.out.2], by go_num, trivial⟩
      case measure => simp [intOf]; omega
    · obtain rfl : 16 = k := by omega
      go_wp2
      go_ret
      exact ⟨rfl, rfl⟩

theorem reftext_c (b : Nat) (hb : b < 18446744073709551616) (w : World) :
    Calls Tryd.prog 16 #[.int .u64 (b : Int)] w fun e w' => e = .returned (.string (textW b)) ∧ w = w' := by
  have HF := Lib.hid (refform_c b hb)
  have hlt := form_lt b hb
  have hfa := form_any b hb
  unfold textW
  by_cases h1 : nanW b = true
  · rw [if_pos h1]
    rw [form_nan b h1] at HF
    clear h1 hb hlt hfa
    go_enter Tryd.func16, Tryd.ntmps16
    go_wp2_with (go_at_call 9; refine (HF.out _).mono ?_; rintro e w1 ⟨rfl, rfl⟩)
    go_ret
    exact ⟨rfl, rfl⟩
  · have h1' : nanW b = false := by simpa using h1
    rw [if_neg h1]
    have hfs := form_sg b h1'
    by_cases h2 : b = 9218868437227405312
    · rw [if_pos h2]
      have hf : form b = 9218868437227405312 := by rw [h2]; decide
      rw [hf] at HF
      clear h1 h1' h2 hb hlt hfa hfs hf
      go_enter Tryd.func16, Tryd.ntmps16
      go_wp2_with (go_at_call 9; refine (HF.out _).mono ?_; rintro e w1 ⟨rfl, rfl⟩)
      go_ret
      exact ⟨rfl, rfl⟩
    · rw [if_neg h2]
      by_cases h3 : b = 18442240474082181120
      · rw [if_pos h3]
        have hf : form b = 18442240474082181120 := by rw [h3]; decide
        rw [hf] at HF
        clear h1 h1' h2 h3 hb hlt hfa hfs hf
        go_enter Tryd.func16, Tryd.ntmps16
        go_wp2_with (go_at_call 9; refine (HF.out _).mono ?_; rintro e w1 ⟨rfl, rfl⟩)
        go_ret
        exact ⟨rfl, rfl⟩
      · rw [if_neg h3]
        have hn : b % 9223372036854775808 ≤ 9218868437227405312 := by
          unfold nanW at h1'
          simp at h1'
          omega
        have n1 : form b ≠ 9221120237041090560 ∧ form b ≠ 9218868437227405312 ∧ form b ≠ 18442240474082181120 := by
          rw [hfs]
          split <;> omega
        exact digits_c b (form b) w (Lib.hid hlt) HF (by simp; omega) (by simp; omega) (by simp; omega)
end Go.Proofs.YtnakfnkmdiekhaaDoor
