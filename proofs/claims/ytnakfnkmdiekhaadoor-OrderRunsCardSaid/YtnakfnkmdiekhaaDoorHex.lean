/-
  strconv.FormatUint at base 16: the walk.
-/
import Derived.Test.YtnakfnkmdiekhaaDoorOrdK
import Derived.Lib.ItoaWalk
namespace Go.Proofs.YtnakfnkmdiekhaaDoor
open Go.RowKit Ieee

/-- The letters of digits. -/
def letters : ByteArray := ⟨#[48, 49, 50, 51, 52, 53, 54, 55, 56, 57, 97, 98, 99, 100, 101, 102, 103, 104, 105, 106, 107, 108, 109, 110, 111, 112, 113, 114, 115, 116, 117, 118, 119, 120, 121, 122]⟩
/-- The letter of a digit below 16. -/
def hexD (d : Nat) : UInt8 := if d < 10 then UInt8.ofNat (48 + d) else UInt8.ofNat (87 + d)
/-- What the table of package bits says of 16. -/
def TabAt (w : World) : Prop := w.cell? ⟨20, 15, none⟩ = some (.int .u8 4)

theorem zeros16 (w : World) (hT : TabAt w) : Calls Tryd.prog 64 #[.int .u64 16] w fun e w' => e = .returned (.int .i64 4) ∧ w = w' := by
  have hc : w.cell? ⟨20, 15, none⟩ = some (.int .u8 4) := hT
  clear hT
  have h1 : bits .and .u64 16 (IntKind.u64.wrap (-16)) = 16 := by decide +kernel
  have h2 : IntKind.u64.wrap 4573923408821661840 = 4573923408821661840 := by decide +kernel
  go_enter Tryd.func64, Tryd.ntmps64
  go_wp2
  go_ret
  exact ⟨rfl, rfl⟩
theorem tz16 (w : World) (hT : TabAt w) : Calls Tryd.prog 60 #[.int .u64 16] w fun e w' => e = .returned (.int .i64 4) ∧ w = w' := by
  have H := Lib.hid (zeros16 w hT)
  clear hT
  go_enter Tryd.func60, Tryd.ntmps60
  go_wp2_with (go_at_call 64; refine H.out.mono ?_; rintro e w1 ⟨rfl, rfl⟩)
  go_ret
  exact ⟨rfl, rfl⟩
theorem power16 (w : World) : Calls Tryd.prog 59 #[.int .i64 16] w fun e w' => e = .returned (.bool true) ∧ w = w' := by
  have h1 : bits .and .i64 16 15 = 0 := by decide +kernel
  go_enter Tryd.func59, Tryd.ntmps59
  go_wp2
  go_ret
  exact ⟨rfl, rfl⟩

/-- The array behind k digits: the last k of the sixty-five places. -/
def hexArr (u : Nat) (k : Nat) : Array Value := Array.ofFn (n := 65) fun i => .int .u8 (if 65 - k ≤ i.val then ((hexD (u / 16 ^ (64 - i.val) % 16)).toNat : Int) else 0)
def zeros65 : Array Value := Array.replicate 65 (.int .u8 0)
theorem hexArr_zero (u : Nat) : hexArr u 0 = zeros65 := by
  unfold hexArr zeros65
  apply Array.ext
  · simp
  · intro i h1 h2
    simp at h1
    simp; omega
theorem hexArr_size (u k : Nat) : (hexArr u k).size = 65 := by simp [hexArr]
theorem hexArr_get (u k i : Nat) (hi : i < 65) : (hexArr u k)[i]? = some (.int .u8 (if 65 - k ≤ i then ((hexD (u / 16 ^ (64 - i) % 16)).toNat : Int) else 0)) := by
  unfold hexArr
  rw [Array.getElem?_eq_getElem (by simpa using hi)]
  simp
theorem hexArr_step (u k : Nat) (hk : k < 65) : (hexArr u k).setIfInBounds (64 - k) (.int .u8 ((hexD (u / 16 ^ k % 16)).toNat : Int)) = hexArr u (k + 1) := by
  apply Array.ext_getElem?
  intro i
  by_cases hi : i < 65
  · rw [Array.getElem?_setIfInBounds, hexArr_get _ _ _ hi, hexArr_get _ _ _ hi, hexArr_size]
    by_cases e : 64 - k = i
    · subst e
      rw [show 64 - (64 - k) = k by omega]
      simp; omega
    · rw [if_neg e]
      by_cases a : 65 - k ≤ i
      · rw [if_pos a, if_pos (by omega)]
      · rw [if_neg a, if_neg (by omega)]
  · rw [Array.getElem?_eq_none (by simp [hexArr_size]; omega), Array.getElem?_eq_none (by simp [hexArr_size]; omega)]
theorem hexArr_one (u k : Nat) : (hexArr u k).all (·.oneCell') = true := by
  rw [Array.all_eq_true]
  intro i hi
  simp [hexArr, Value.oneCell']
theorem letter_of (d : Nat) (hd : d < 16) : letters.data[d]? = some (hexD d) := by
  have h : (List.range 16).all (fun d => letters.data[d]? == some (hexD d)) = true := by decide +kernel
  have := List.all_eq_true.1 h d (List.mem_range.2 hd)
  simpa using this

theorem int_eq {k : IntKind} {a b : Int} (h : a = b) : Value.int k a = Value.int k b := by rw [h]
theorem letters_get (d : Nat) (hd : d < 16) (h : d < letters.size) : letters[d] = hexD d := by
  have e := letter_of d hd
  obtain ⟨h2, h3⟩ := Array.getElem?_eq_some_iff.1 e
  exact h3
/-- The last n digits of a number, as a text. -/
def hexStr (u n : Nat) : ByteArray := ⟨((List.range n).map fun i => hexD (u / 16 ^ (n - 1 - i) % 16)).toArray⟩
theorem hexStr_nums (u n : Nat) : strOfNums ((List.range n).map fun i => ((hexD (u / 16 ^ (n - 1 - i) % 16)).toNat : Int)) = hexStr u n := by
  unfold strOfNums hexStr
  rw [List.map_map]
  congr 3
  funext i
  simp

theorem arr95 : Tryd.prog.underlying 95 = some (.array (Tryd.prog.arrayLen 95) (Tryd.prog.elem 95)) := by kernel_rfl
theorem len95 : Tryd.prog.arrayLen 95 = 65 := by kernel_rfl
theorem elem95 : Tryd.prog.elem 95 = 5 := by kernel_rfl
theorem slice95 (w2 : World) (ab k : Nat) (hk : k ≤ 15) : (Instr.sliceAt 95 (.pointer (some ⟨ab, 0, none⟩)) (some (.int .i64 (64 - (k : Int)))) none none).run Tryd.prog w2 = .ok (.slice (some ⟨ab, 64 - k, none⟩) (k + 1) (k + 1)) w2 := by
  rw [run_sliceAt_array_l w2 95 _ arr95 .i64 (64 - (k : Int)) (by omega) (by rw [len95]; omega), elem95, Tryd.sizeOf5, len95, show ((64 : Int) - (k : Int)).toNat = 64 - k by omega]
  simp only [Result.andThen, slicedAt]
  rw [if_neg (by omega), show 65 - (64 - k) = k + 1 by omega, Nat.mul_one]
  simp [Addr.add]
  omega
theorem conv95 (w2 : World) (ab k u : Nat) (hB : Blk w2 ab 95 (hexArr u (k + 1))) (hk : k ≤ 15) : (convert 59 9 (.slice (some ⟨ab, 64 - k, none⟩) (k + 1) (k + 1))).run Tryd.prog w2 = .ok (.string (hexStr u (k + 1))) w2 := by
  rw [← hexStr_nums]
  refine run_convert_bytes_arg w2 59 5 Tryd.underlying59 Tryd.underlying5 ab (64 - k) (k + 1) (k + 1) _ (by simp) (fun i hi => ?_) 9 Tryd.underlying9
  rw [hB.cell, hexArr_get _ _ _ (by omega), if_pos (by omega)]
  rw [show 64 - (64 - k + i) = k + 1 - 1 - i by omega]
  refine congrArg (fun z => some (Value.int IntKind.u8 z)) ?_
  simp [List.getD, hi]
theorem zero95 : Tryd.zeroCells95 = zeros65 := by kernel_rfl
set_option maxHeartbeats 1000000 in
set_option maxRecDepth 100000 in
theorem bits16 (u : Nat) (w : World) (hu : u < 18446744073709551616) (hT : TabAt w) :
    Calls Tryd.prog 50 #[.slice none 0 0, .int .u64 (u : Int), .int .i64 16, .bool false, .bool false] w fun e w' => ∃ n, 1 ≤ n ∧ n ≤ 16 ∧ u / 16 ^ n = 0 ∧ e = .returned (.tuple #[.slice none 0 0, .string (hexStr u n)]) ∧ Below w.heap.size w w' := by
  have H1 := Lib.hid power16
  have H2 := Lib.hid (fun W hT => tz16 W hT)
  have HT := Lib.hid (And.intro hT hu)
  clear hT hu
  go_enter Tryd.func50, Tryd.ntmps50
  go_upto_region 4 with fail
  go_cut [12, 13] (fun s12 s13 wx => s12 = .pointer (some ⟨w.heap.size, 0, none⟩) ∧ s13 = .int .i64 65 ∧ Blk wx w.heap.size 95 zeros65 ∧ Below w.heap.size w wx)
  case first =>
    go_wp2_with fail
    go_meet
    refine ⟨rfl, rfl, ?_, (Below.refl _ _).alloc (Nat.le_refl _) _⟩
    rw [← zero95]
    exact Blk.new w _ _
  case rest =>
    obtain ⟨rfl, rfl, hB, hb⟩ := hcut
    have HB := Lib.hid (And.intro hB hb)
    clear hB hb
    have HT2 : Hid (TabAt wc) := Lib.hid ((HB.out.2.cell (p := ⟨20, 15, none⟩) (block_lt_of_cell HT.out.1)).trans HT.out.1)
    go_upto_region 9 with (first | (go_at_call 59; refine (H1.out _).mono ?_; rintro e w1 ⟨rfl, rfl⟩) | (go_at_call 60; refine (H2.out _ HT2.out).mono ?_; rintro e w1 ⟨rfl, rfl⟩))
    go_wp2_with fail
    go_loopw [1, 13] (fun s1 s13 wr => ∃ k : Nat, k ≤ 15 ∧ s1 = .int .u64 ((u / 16 ^ k : Nat) : Int) ∧ s13 = .int .i64 (65 - k) ∧ Blk wr w.heap.size 95 (hexArr u k) ∧ Below w.heap.size w wr) (fun s1 _ _ => (intOf s1).toNat)
    case atStart => exact ⟨0, by omega, by simp, by simp, by rw [hexArr_zero]; exact HB.out.1, HB.out.2⟩
    case round =>
      obtain ⟨k, hk, rfl, rfl, hR, hbr⟩ := hrel
      have hX : u / 16 ^ k ≤ u := Nat.div_le_self _ _
      have hXu := HT.out.2
      have hnext : u / 16 ^ (k + 1) = u / 16 ^ k / 16 := by rw [Nat.pow_succ, Nat.div_div_eq_div_mul]
      have hlast : k = 15 → u / 16 ^ k < 16 := fun h => by subst h; omega
      have HS := Lib.hid (And.intro hR hbr)
      clear hR hbr
      by_cases hlt : 16 ≤ u / 16 ^ k
      · have hk14 : k ≤ 14 := by omega
        have hcell : wr.cell? ⟨w.heap.size, 64 - k, none⟩ = some (.int .u8 0) := by
          rw [HS.out.1.cell, hexArr_get _ _ _ (by omega), if_neg (by omega)]
        have hfree : wr.frozen? ⟨w.heap.size, 64 - k, none⟩ = false := HS.out.1.free _
        have HN := Lib.hid hnext
        have HA := Lib.hid (hexArr_step u k (by omega))
        generalize u / 16 ^ k = X at *
        have hX16 : (16 : Int) ≤ (X : Int) := by omega
        have hXb : (X : Int) < 18446744073709551616 := by omega
        have hand : bits .and .u64 (X : Int) 15 = ((X % 16 : Nat) : Int) := by
          have e := u64_and_nat X 15 (by omega) (by decide)
          rw [show X &&& 15 = X % 16 from Nat.and_two_pow_sub_one_eq_mod X 4] at e
          exact e
        have ht : 0 ≤ (64 : Int) - k := by omega
        clear hnext hlast hXu hX hlt
        go_upto_region 13 with fail
        go_name_bytes L hL
        have hsz : L.size = 36 := by rw [← hL]; rfl
        have HL := Lib.hid (show letters = L from hL)
        have hd : X % 16 < 16 := by omega
        generalize hdd : X % 16 = d at *
        have hd2 : (d : Int) < 36 := by omega
        have HX := Lib.hid hX16
        clear hL hX16 hXb
        rw [show (65 : Int) - k - 1 = 64 - k by omega]
        go_wp2
        obtain rfl := HL.out
        have hL := letters_get d hd
        go_roundw
        case rel =>
          have hn := HN.out
          refine ⟨k + 1, by omega, int_eq (by rw [hn]; omega), int_eq (by omega), ?_, ?_⟩
          · rw [← HA.out, ← hL (by rw [hsz]; omega)]
            exact HS.out.1.set_ (64 - k) _
          · exact HS.out.2.setCell (Nat.le_refl _) _
        case measure =>
          have := HX.out
          simp [intOf]
          omega
      · have hcell : wr.cell? ⟨w.heap.size, 64 - k, none⟩ = some (.int .u8 0) := by
          rw [HS.out.1.cell, hexArr_get _ _ _ (by omega), if_neg (by omega)]
        have hfree : wr.frozen? ⟨w.heap.size, 64 - k, none⟩ = false := HS.out.1.free _
        have HA := Lib.hid (hexArr_step u k (by omega))
        have HN := Lib.hid (show u / 16 ^ (k + 1) = 0 by rw [hnext]; exact Nat.div_eq_of_lt (Nat.lt_of_not_le hlt))
        generalize u / 16 ^ k = X at *
        have hXlt : X < 16 := by omega
        rw [Nat.mod_eq_of_lt hXlt] at HA
        have hX16 : ¬ ((16 : Int) ≤ (X : Int)) := by omega
        have ht : 0 ≤ (64 : Int) - k := by omega
        clear hnext hlast hXu hX hlt
        go_upto_region 16 with fail
        go_name_bytes L hL
        have hsz : L.size = 36 := by rw [← hL]; rfl
        have HL := Lib.hid (show letters = L from hL)
        have hd2 : (X : Int) < 36 := by omega
        rw [show (65 : Int) - k - 1 = 64 - k by omega]
        clear hL hX16
        go_upto_region 30 with fail
        obtain rfl := HL.out
        have hL := letters_get X hXlt (by rw [hsz]; omega)
        rw [hL]
        have hA := HS.out.1.set_ (64 - k) (.int .u8 ((hexD X).toNat : Int))
        rw [HA.out] at hA
        have hb2 : Below w.heap.size w (wr.setCell ⟨w.heap.size, 64 - k, none⟩ (.int .u8 ((hexD X).toNat : Int))) := HS.out.2.setCell (Nat.le_refl _) _
        generalize wr.setCell ⟨w.heap.size, 64 - k, none⟩ (.int .u8 ((hexD X).toNat : Int)) = w2 at *
        have HF := Lib.hid (And.intro hA hb2)
        clear hA hb2 hcell hfree HL hL hXlt hd2
        have hsl := slice95 w2 w.heap.size k hk
        have hcv := conv95 w2 w.heap.size k u HF.out.1 hk
        have HN2 := Lib.hid (show k + 1 ≤ 16 by omega)
        clear ht hk
        generalize hS : hexStr u (k + 1) = S at *
        have HS2 := Lib.hid hS
        clear hS
        go_wp2
        go_ret2
        exact ⟨k + 1, by omega, HN2.out, HN.out, by rw [HS2.out]; rfl, HF.out.2⟩

theorem format16 (u : Nat) (w : World) (hu : u < 18446744073709551616) (hT : TabAt w) :
    Calls Tryd.prog 37 #[.int .u64 (u : Int), .int .i64 16] w fun e w' => ∃ n, 1 ≤ n ∧ n ≤ 16 ∧ u / 16 ^ n = 0 ∧ e = .returned (.string (hexStr u n)) ∧ Below w.heap.size w w' := by
  have H := Lib.hid (bits16 u w hu hT)
  clear hu hT
  go_enter Tryd.func37, Tryd.ntmps37
  go_wp2_with (go_at_call 50; refine H.out.mono ?_; rintro e w1 ⟨n, h1, h2, h3, rfl, hb⟩; have HN := Lib.hid (And.intro h1 (And.intro h2 (And.intro h3 hb))); clear h1 h2 h3 hb)
  go_ret
  exact ⟨n, HN.out.1, HN.out.2.1, HN.out.2.2.1, rfl, HN.out.2.2.2⟩
theorem format_c (u : Nat) (w : World) (hu : u < 18446744073709551616) (hT : TabAt w) :
    Calls Tryd.prog 30 #[.int .u64 (u : Int), .int .i64 16] w fun e w' => ∃ n, 1 ≤ n ∧ n ≤ 16 ∧ u / 16 ^ n = 0 ∧ e = .returned (.string (hexStr u n)) ∧ Below w.heap.size w w' := by
  have H := Lib.hid (format16 u w hu hT)
  clear hu hT
  go_enter Tryd.func30, Tryd.ntmps30
  go_wp2_with (go_at_call 37; refine H.out.mono ?_; rintro e w1 ⟨n, h1, h2, h3, rfl, hb⟩; have HN := Lib.hid (And.intro h1 (And.intro h2 (And.intro h3 hb))); clear h1 h2 h3 hb)
  go_ret
  exact ⟨n, HN.out.1, HN.out.2.1, HN.out.2.2.1, rfl, HN.out.2.2.2⟩
end Go.Proofs.YtnakfnkmdiekhaaDoor
