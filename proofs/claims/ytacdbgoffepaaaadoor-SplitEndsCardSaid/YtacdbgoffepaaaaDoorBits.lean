/-
  The reference of package split, bit by bit: the walks.
-/
import Derived.Test.YtacdbgoffepaaaaDoorSplit
import Derived.Deep.WholeRow
import Derived.Laws.CopyOwn
namespace Go.Proofs.YtacdbgoffepaaaaDoor
open Go.RowKit

/-- The bits of a hash behind k rounds: the last k of the sixty-four places. -/
def bitAt (h : Int) (i : Nat) : Int := h / 2 ^ (63 - i) % 2
def bitArr (h : Int) (k : Nat) : Array Value := Array.ofFn (n := 64) fun i => .int .i64 (if 64 - k ≤ i.val then bitAt h i.val else 0)
def zeros : Array Value := Array.replicate 64 (.int .i64 0)
theorem bitArr_zero (h : Int) : bitArr h 0 = zeros := by
  unfold bitArr zeros
  apply Array.ext
  · simp
  · intro i h1 h2
    simp at h1
    simp; omega
theorem bitArr_size (h : Int) (k : Nat) : (bitArr h k).size = 64 := by simp [bitArr]
theorem bitArr_get (h : Int) (k i : Nat) (hi : i < 64) : (bitArr h k)[i]? = some (.int .i64 (if 64 - k ≤ i then bitAt h i else 0)) := by
  unfold bitArr
  rw [Array.getElem?_eq_getElem (by simpa using hi)]
  simp
theorem bitArr_step (h : Int) (k : Nat) (hk : k < 64) : (bitArr h k).setIfInBounds (63 - k) (.int .i64 (bitAt h (63 - k))) = bitArr h (k + 1) := by
  apply Array.ext_getElem?
  intro i
  by_cases hi : i < 64
  · rw [Array.getElem?_setIfInBounds, bitArr_get _ _ _ hi, bitArr_get _ _ _ hi, bitArr_size]
    by_cases e : 63 - k = i
    · subst e
      simp; omega
    · rw [if_neg e]
      by_cases a : 64 - k ≤ i
      · rw [if_pos a, if_pos (by omega)]
      · rw [if_neg a, if_neg (by omega)]
  · rw [Array.getElem?_eq_none (by simp [bitArr_size]; omega), Array.getElem?_eq_none (by simp [bitArr_size]; omega)]
theorem bitArr_one (h : Int) (k : Nat) : (bitArr h k).all (·.oneCell') = true := by
  rw [Array.all_eq_true]
  intro i hi
  simp [bitArr, Value.oneCell']

theorem size24 : (Tryd.prog.info? 24).map (·.size) = some 64 := by kernel_rfl
theorem zeros_lit : (Tryd.prog.built 24 []).getD #[] = zeros := by kernel_rfl
theorem zero24 : (Tryd.prog.info? 24).map (·.zero) = some (some (.agg zeros)) := by kernel_rfl

set_option maxHeartbeats 1000000 in
set_option maxRecDepth 100000 in
theorem bits_any (h : Int) (w : World) (h0 : 0 ≤ h) (h1 : h < 18446744073709551616) :
    Calls Tryd.prog 11 #[.int .u64 h] w fun e w' => e = .returned (.agg (bitArr h 64)) ∧ Below w.heap.size w w' := by
  go_enter Tryd.func11, Tryd.ntmps11
  go_upto_region 1 with fail
  go_cut [3] (fun s3 wx => s3 = .pointer (some ⟨w.heap.size + 1, 0, none⟩) ∧ Blk wx w.heap.size 24 zeros ∧ Blk wx (w.heap.size + 1) 24 zeros ∧ Below w.heap.size w wx)
  case first =>
    go_wp2_with (refine wpList_store_row rfl 24 (.tmp 3) (.tmp 5) rfl (w.heap.size + 1) _ rfl rfl 24 _ (heap_alloc2_new _ _ _) size24 rfl (by kernel_rfl) ?_)
    go_meet
    refine ⟨rfl, ?_, ?_, ?_⟩
    · exact (setRow_other _ (w.heap.size + 1) w.heap.size _ (by omega)).trans (heap_alloc2_old w _ _)
    · exact setRow_heap _ _ _ _ _ _ (heap_alloc2_new w _ _)
    · exact below_setRow (((Below.refl _ _).alloc (Nat.le_refl _) _).alloc (by simp) _) (by omega) _
  case rest =>
    obtain ⟨rfl, hB0, hB1, hb⟩ := hcut
    go_wp2_with fail
    go_loopw [0, 4] (fun hv iv wr => ∃ k : Nat, k ≤ 64 ∧ hv = .int .u64 (h / 2 ^ k) ∧ iv = .int .i64 (63 - k) ∧ Blk wr w.heap.size 24 zeros ∧ Blk wr (w.heap.size + 1) 24 (bitArr h k) ∧ Below w.heap.size w wr) (fun _ i _ => (intOf i + 1).toNat)
    case atStart => exact ⟨0, by omega, by simp, by simp, hB0, by rw [bitArr_zero]; exact hB1, hb⟩
    case round =>
      obtain ⟨k, hk, rfl, rfl, hR0, hR1, hbr⟩ := hrel
      have hX0 := (shr_lt h h0 k).1
      have hX1 := (shr_lt h h0 k).2
      have hnext : h / 2 ^ (k + 1) = h / 2 ^ k / 2 := by rw [Int.pow_succ, Int.ediv_ediv_of_nonneg (Int.pow_nonneg (by decide))]
      by_cases hlt : k < 64
      · have hcell : wr.cell? ⟨w.heap.size + 1, 63 - k, none⟩ = some (.int .i64 (if 64 - k ≤ 63 - k then bitAt h (63 - k) else 0)) := by
          rw [hR1.cell, bitArr_get _ _ _ (by omega)]
        have hfree : wr.frozen? ⟨w.heap.size + 1, 63 - k, none⟩ = false := hR1.free _
        rw [if_neg (by omega)] at hcell
        have hbit : bitAt h (63 - k) = h / 2 ^ k % 2 := by unfold bitAt; rw [show 63 - (63 - k) = k by omega]
        have HS := Lib.hid (And.intro hnext (And.intro hbit (And.intro hR0 (And.intro hR1 hbr))))
        clear hnext hbit hR0 hR1 hbr
        have hb2 : 0 ≤ h / 2 ^ k % 2 ∧ h / 2 ^ k % 2 ≤ 1 := by omega
        obtain ⟨hb2, hb3⟩ := hb2
        generalize h / 2 ^ k = X at *
        have ht : 0 ≤ (63 : Int) - k := by omega
        go_wp2
        go_roundw
        case rel =>
          obtain ⟨e1, e2, q0, q1, q2⟩ := HS.out
          refine ⟨k + 1, by omega, by rw [e1], by congr 1; omega, q0.far (by simp) _, ?_, q2.setCell (by simp) _⟩
          have := q1.set_ (63 - k) (.int .i64 (X % 2))
          rw [← e2, bitArr_step h k hlt] at this
          rw [← e2]
          exact this
        case measure => simp [intOf]; omega
      · obtain rfl : k = 64 := by omega
        have HS := Lib.hid (And.intro hR0 (And.intro hR1 hbr))
        clear hnext hX0 hX1 hR0 hR1 hbr hlt
        go_wp2_with (first
          | (refine wpList_load_row rfl 24 (.tmp 3) rfl (w.heap.size + 1) rfl 24 (bitArr h 64) (0, 0) _ HS.out.2.1 Tryd.underlying24 rfl (by rw [bitArr_size]; exact size24) ?_)
          | (refine wpList_store_row rfl 24 (.tmp 2) (.tmp 17) rfl w.heap.size (bitArr h 64) rfl rfl 24 zeros HS.out.1 (by rw [bitArr_size]; exact size24) (by rw [bitArr_size]; rfl) (bitArr_one h 64) ?_))
        refine bodyPost_ret (results_cell_row rfl _ _ w.heap.size 24 (bitArr h 64) (0, 0) _ rfl (setRow_heap _ _ _ _ _ _ HS.out.1) Tryd.underlying24 rfl (by rw [bitArr_size]; exact size24)) rfl ⟨rfl, ?_⟩
        exact below_setRow HS.out.2.2 (Nat.le_refl _) _

theorem snoc_ind {P : List Int → Prop} (h0 : P []) (hs : ∀ xs b, P xs → P (xs ++ [b])) (xs : List Int) : P xs := by
  rw [← List.reverse_reverse xs]
  induction xs.reverse with
  | nil => exact h0
  | cons b l ih => rw [List.reverse_cons]; exact hs _ _ ih

/-- The number of so many bits. -/
def numI (xs : List Int) : Int := xs.foldl (fun n b => n * 2 + b) 0
theorem numI_snoc (xs : List Int) (b : Int) : numI (xs ++ [b]) = numI xs * 2 + b := by simp [numI]
theorem numI_take (xs : List Int) (k : Nat) (hk : k < xs.length) : numI (xs.take (k + 1)) = numI (xs.take k) * 2 + xs.getD k 0 := by
  rw [List.take_succ_eq_append_getElem hk, numI_snoc]
  simp [hk]
theorem numI_bound (xs : List Int) (hx : ∀ b ∈ xs, 0 ≤ b ∧ b ≤ 1) : 0 ≤ numI xs ∧ numI xs < 2 ^ xs.length := by
  induction xs using snoc_ind with
  | h0 => simp [numI]
  | hs xs b ih =>
    have h1 := ih (fun c hc => hx c (by simp [hc]))
    have h2 := hx b (by simp)
    rw [numI_snoc, List.length_append, List.length_singleton, Int.pow_succ]
    omega
theorem numI_app (xs ys : List Int) : numI (xs ++ ys) = numI xs * 2 ^ ys.length + numI ys := by
  induction ys using snoc_ind with
  | h0 => simp [numI]
  | hs ys b ih =>
    rw [← List.append_assoc, numI_snoc, numI_snoc, ih, List.length_append, List.length_singleton, Int.pow_succ, Int.add_mul, Int.mul_assoc]
    omega

set_option maxHeartbeats 400000 in
theorem number_any (xs : List Int) (hx : ∀ b ∈ xs, 0 ≤ b ∧ b ≤ 1) (hl : xs.length ≤ 64) (b off cap : Nat) (w : World) (hc : ∀ j, j < xs.length → w.cell? ⟨b, off + j, none⟩ = some (.int .i64 (xs.getD j 0))) :
    Calls Tryd.prog 17 #[.slice (some ⟨b, off, none⟩) xs.length cap] w fun e w' => e = .returned (.int .u64 (numI xs)) ∧ w = w' := by
  have HX := Lib.hid hx
  have HC := Lib.hid hc
  clear hx hc
  go_enter Tryd.func17, Tryd.ntmps17
  go_wp2_with fail
  go_loop [3, 8] (fun n i => ∃ k : Nat, k ≤ xs.length ∧ i = .int .i64 k ∧ n = .int .u64 (numI (xs.take k))) (fun _ i => xs.length - (intOf i).toNat)
  case atStart => exact ⟨0, by omega, by simp, by simp [numI]⟩
  case round =>
    obtain ⟨k, hk, rfl, rfl⟩ := hrel
    have hn := numI_bound (xs.take k) (fun b hb => HX.out b (List.mem_of_mem_take hb))
    by_cases hlt : k < xs.length
    · have hcell := HC.out k hlt
      have hb := HX.out (xs.getD k 0) (by simp [hlt])
      have hp : (2 : Int) ^ (xs.take k).length ≤ 9223372036854775808 := by
        have : (2 : Nat) ^ (xs.take k).length ≤ 2 ^ 63 := Nat.pow_le_pow_right (by decide) (by simp; omega)
        have h2 : ((2 ^ (xs.take k).length : Nat) : Int) ≤ ((2 ^ 63 : Nat) : Int) := by exact_mod_cast this
        simpa using h2
      have hn2 : numI (xs.take k) < 9223372036854775808 := by omega
      have hn1 := hn.1
      have HT := Lib.hid (numI_take xs k hlt)
      obtain ⟨hb0, hb1⟩ := hb
      clear hp hn
      generalize numI (xs.take k) = N at *
      generalize xs.getD k 0 = B at *
      go_wp2
      go_round
      case rel => exact ⟨k + 1, by omega, by go_num, by rw [HT.out]⟩
      case measure => simp [intOf]; omega
    · have hk' : k = xs.length := by omega
      have HK := Lib.hid (show numI (xs.take k) = numI xs by rw [hk', List.take_length])
      clear hk'
      generalize numI (xs.take k) = N at *
      go_wp2
      go_ret
      exact ⟨by rw [← HK.out]; rfl, rfl⟩

/-- The bits of a hash, the highest one first. -/
def bL (h : Int) : List Int := (List.range 64).map (bitAt h)
theorem bL_length (h : Int) : (bL h).length = 64 := by simp [bL]
theorem bL_get (h : Int) (i : Nat) (hi : i < 64) : (bL h).getD i 0 = bitAt h i := by simp [bL, hi]
theorem bitAt_01 (h : Int) (i : Nat) : 0 ≤ bitAt h i ∧ bitAt h i ≤ 1 := by unfold bitAt; omega
theorem bL_01 (h : Int) : ∀ b ∈ bL h, 0 ≤ b ∧ b ≤ 1 := by
  intro b hb
  obtain ⟨i, _, rfl⟩ := List.mem_map.1 hb
  exact bitAt_01 h i
theorem bitArr_full (h : Int) (i : Nat) (hi : i < 64) : (bitArr h 64)[i]? = some (.int .i64 ((bL h).getD i 0)) := by
  rw [bitArr_get _ _ _ hi, bL_get _ _ hi, if_pos (by omega)]
theorem numI_bL_take (h : Int) (h1 : h < 18446744073709551616) (h0 : 0 ≤ h) (d : Nat) (hd : d ≤ 64) : numI ((bL h).take d) = h / 2 ^ (64 - d) := by
  induction d with
  | zero => simp [numI]; omega
  | succ d ih =>
    rw [numI_take _ _ (by rw [bL_length]; omega), ih (by omega), bL_get _ _ (by omega)]
    unfold bitAt
    have e : 64 - d = (63 - d) + 1 := by omega
    have e2 : 64 - (d + 1) = 63 - d := by omega
    rw [e, e2, Int.pow_succ, ← Int.ediv_ediv_of_nonneg (Int.pow_nonneg (by decide))]
    omega
theorem numI_bL_drop (h : Int) (h1 : h < 18446744073709551616) (h0 : 0 ≤ h) : numI ((bL h).drop 57) = h % 128 := by
  have e := numI_app ((bL h).take 57) ((bL h).drop 57)
  rw [List.take_append_drop] at e
  have e1 := numI_bL_take h h1 h0 57 (by decide)
  have e2 := numI_bL_take h h1 h0 64 (by decide)
  rw [List.take_of_length_le (by rw [bL_length]; omega)] at e2
  rw [e2, e1, List.length_drop, bL_length] at e
  simp at e
  omega

theorem take_getD (l : List Int) (n j : Nat) (hj : j < n) : (l.take n).getD j 0 = l.getD j 0 := by simp [hj]
theorem drop_getD (l : List Int) (n j : Nat) : (l.drop n).getD j 0 = l.getD (n + j) 0 := by simp

/-- Number of a piece of the bits in a block. -/
theorem number_take (h : Int) (h1 : h < 18446744073709551616) (h0 : 0 ≤ h) (d : Nat) (hd : d ≤ 64) (b cap : Nat) (w : World) (hB : Blk w b 24 (bitArr h 64)) :
    Calls Tryd.prog 17 #[.slice (some ⟨b, 0, none⟩) d cap] w fun e w' => e = .returned (.int .u64 (h / 2 ^ (64 - d))) ∧ w = w' := by
  have := number_any ((bL h).take d) (fun c hc => bL_01 h c (List.mem_of_mem_take hc)) (by simp [bL_length]; omega) b 0 cap w (fun j hj => by
    have hj' : j < d := by simp [bL_length] at hj; omega
    rw [take_getD _ _ _ hj', Nat.zero_add, hB.cell, bitArr_full h j (by omega)])
  rw [numI_bL_take h h1 h0 d hd] at this
  simpa [bL_length, Nat.min_eq_left hd] using this
theorem number_drop (h : Int) (h1 : h < 18446744073709551616) (h0 : 0 ≤ h) (b cap : Nat) (w : World) (hB : Blk w b 24 (bitArr h 64)) :
    Calls Tryd.prog 17 #[.slice (some ⟨b, 57, none⟩) 7 cap] w fun e w' => e = .returned (.int .u64 (h % 128)) ∧ w = w' := by
  have := number_any ((bL h).drop 57) (fun c hc => bL_01 h c (List.mem_of_mem_drop hc)) (by simp [bL_length]) b 57 cap w (fun j hj => by
    have hj' : j < 7 := by simpa [bL_length] using hj
    rw [drop_getD, hB.cell, bitArr_full h (57 + j) (by omega)])
  rw [numI_bL_drop h h1 h0] at this
  simpa [bL_length] using this

set_option maxHeartbeats 1000000 in
set_option maxRecDepth 100000 in
theorem refTop_yes (h d : Int) (w : World) (h0 : 0 ≤ h) (h1 : h < 18446744073709551616) (d0 : 0 ≤ d) (d1 : d ≤ 16) :
    Calls Tryd.prog 13 #[.int .u64 h, .int .i64 d] w fun e w' => e = .returned (.tuple #[.int .i64 (h / 2 ^ (64 - d).toNat), .int .i64 0]) ∧ Below w.heap.size w w' := by
  obtain ⟨D, rfl⟩ := Int.eq_ofNat_of_zero_le d0
  have e64 : (64 - (D : Int)).toNat = 64 - D := by omega
  have hb2 := top_lt h D h1 d0 d1
  have hb3 := pow_le16 D d1
  have hb4 := (shr_lt h h0 (64 - D)).1
  rw [e64] at hb2 ⊢
  have hb5 : h / 2 ^ (64 - D) < 65536 := by omega
  have HN := Lib.hid (number_take h h1 h0 D (by omega))
  have HB := Lib.hid (bits_any h)
  have hD : (D : Int) ≤ 64 := by omega
  clear hb2 hb3 e64
  generalize h / 2 ^ (64 - D) = T at *
  go_enter Tryd.func13, Tryd.ntmps13
  go_wp2_with (first
    | (go_at_call 11; refine (HB.out _ h0 h1).mono ?_; rintro e w1 ⟨rfl, hb1⟩)
    | (refine wpList_store_row rfl 24 (.tmp 6) (.tmp 14) rfl _ (bitArr h 64) rfl rfl 24 _ (heap_alloc_new _ _) (by rw [bitArr_size]; exact size24) (by rw [bitArr_size]; rfl) (bitArr_one h 64) ?_; rw [World.setRow_alloc_new])
    | (go_at_call 17; refine (HN.out _ _ _ (Blk.new _ _ _)).mono ?_; rintro e w' ⟨rfl, rfl⟩))
  go_ret2
  exact ⟨rfl, hb1.alloc hb1.size _⟩
theorem refTop_no (h d : Int) (w : World) (hd : ¬ (0 ≤ d ∧ d ≤ 16)) :
    Calls Tryd.prog 13 #[.int .u64 h, .int .i64 d] w fun e w' => e = .returned (.tuple #[.int .i64 0, .int .i64 1]) ∧ Below w.heap.size w w' := by
  rcases (show d < 0 ∨ 16 < d by omega) with hd' | hd'
  all_goals
    clear hd
    go_enter Tryd.func13, Tryd.ntmps13
    go_wp2
    go_ret2
    exact ⟨rfl, Below.refl _ _⟩

theorem run_index_bits (h : Int) (D : Nat) (hD : D < 64) (W : World) : (Instr.index 24 (.agg (bitArr h 64)) (.int .i64 (D : Int))).run Tryd.prog W = .ok (.int .i64 (bitAt h D)) W := by
  have hg := bitArr_full h D hD
  rw [bL_get h D hD] at hg
  simp [Instr.index, run_underlying Tryd.underlying24, asIntOf, part, isAgg, run_underlying Tryd.underlying3, hg]
  intro hc
  omega

set_option maxHeartbeats 1000000 in
set_option maxRecDepth 100000 in
theorem refBit_yes (h d : Int) (w : World) (h0 : 0 ≤ h) (h1 : h < 18446744073709551616) (d0 : 0 ≤ d) (d1 : d ≤ 16) :
    Calls Tryd.prog 15 #[.int .u64 h, .int .i64 d] w fun e w' => e = .returned (.tuple #[.int .i64 (h / 2 ^ (63 - d).toNat % 2), .int .i64 0]) ∧ Below w.heap.size w w' := by
  obtain ⟨D, rfl⟩ := Int.eq_ofNat_of_zero_le d0
  have HE := Lib.hid (show bitAt h D = h / 2 ^ (63 - (D : Int)).toNat % 2 by unfold bitAt; rw [show (63 - (D : Int)).toNat = 63 - D by omega])
  have hix := run_index_bits h D (by omega)
  have HB := Lib.hid (bits_any h)
  rw [← HE.out]
  generalize bitAt h D = B at *
  go_enter Tryd.func15, Tryd.ntmps15
  go_wp2_with (go_at_call 11; refine (HB.out _ h0 h1).mono ?_; rintro e w1 ⟨rfl, hb1⟩)
  go_ret2
  exact ⟨rfl, hb1⟩
theorem refBit_no (h d : Int) (w : World) (hd : ¬ (0 ≤ d ∧ d ≤ 16)) :
    Calls Tryd.prog 15 #[.int .u64 h, .int .i64 d] w fun e w' => e = .returned (.tuple #[.int .i64 0, .int .i64 1]) ∧ Below w.heap.size w w' := by
  rcases (show d < 0 ∨ 16 < d by omega) with hd' | hd'
  all_goals
    clear hd
    go_enter Tryd.func15, Tryd.ntmps15
    go_wp2
    go_ret2
    exact ⟨rfl, Below.refl _ _⟩

end Go.Proofs.YtacdbgoffepaaaaDoor
