/-
  Floats of package pause: same, NaN, IsNaN, Ceil, rank, Mean, by contracts.
-/
import Derived.Test.YtajklhlgakpgiaaDSum
import Derived.Test.YtajklhlgakpgiaaFloCls
import Derived.Test.YtajklhlgakpgiaaFloCeil
import Derived.Test.YtajklhlgakpgiaaFloMin
import Derived.Laws.FloatArith
import Derived.Laws.Cover2
namespace Go.Proofs.Ytajklhlgakpgiaa
open Go.RowKit Go.Lib

theorem isNaN_any (b : Nat) (w : World) :
    Calls Try.prog 31 #[.float .f64 b] w fun e w' => e = .returned (.bool (FloatKind.f64.format.order b b != some .eq)) ∧ w = w' := by
  go_enter Try.func31, Try.ntmps31
  go_wp2
  go_ret
  exact ⟨rfl, rfl⟩
theorem order_or (b : Nat) : FloatKind.f64.format.order b b = some .eq ∨ FloatKind.f64.format.order b b = none := by
  show Ieee.double.order b b = some .eq ∨ Ieee.double.order b b = none
  by_cases h : (Ieee.double.read b).isNaN = true
  · exact .inr (Ieee.order_nan b b h)
  · exact .inl (Ieee.order_self _ (by simpa using h))
/-- same: the two are one, or both no numbers. -/
theorem same_any (a b : Nat) (w : World) (h : a = b ∨ (FloatKind.f64.format.order a a = none ∧ FloatKind.f64.format.order b b = none ∧ FloatKind.f64.format.order a b = none)) :
    Calls Try.prog 17 #[.float .f64 a, .float .f64 b] w fun e w' => e = .returned (.bool true) ∧ w = w' := by
  rcases h with rfl | ⟨h1, h2, h3⟩
  · rcases order_or a with h | h
    · go_enter Try.func17, Try.ntmps17
      go_wp2
      go_ret
      exact ⟨rfl, rfl⟩
    · go_enter Try.func17, Try.ntmps17
      go_wp2
      go_ret
      exact ⟨rfl, rfl⟩
  · go_enter Try.func17, Try.ntmps17
    go_wp2
    go_ret
    exact ⟨rfl, rfl⟩
theorem ceil_ext (c t : Nat) (hc : c < 2047 * 2 ^ 52) (ht : Ieee.double.write ((Ieee.double.read c).integral .up) = t) (w : World) :
    (Extern.MathFloor.toIntegral "math.archCeil" .up #[.float .f64 c]).run Try.prog w = .ok (.float .f64 t) w := by
  obtain ⟨m, i, e, _⟩ := Ieee.read_units c hc
  subst ht
  have e2 : FloatKind.f64.decode c = .number false m i := e
  have e3 : Extern.MathFloor.toIntegral "math.archCeil" .up #[.float .f64 c] = Extern.MathFloor.toIntegral.match_1 (motive := fun _ => Sem Value) (FloatKind.f64.decode c) _ _ := rfl
  rw [e3, e2, e]
  rfl
theorem Ceil_any (c t : Nat) (hc : c < 2047 * 2 ^ 52) (ht : Ieee.double.write ((Ieee.double.read c).integral .up) = t) (w : World) :
    Calls Try.prog 36 #[.float .f64 c] w fun e w' => e = .returned (.float .f64 t) ∧ w = w' := by
  have h := @run_callFunc_extern Try.prog 40 _ (Extern.MathFloor.toIntegral "math.archCeil" .up) Try.func40 (by kernel_rfl) (by kernel_rfl) (by kernel_rfl) (by kernel_rfl)
  have h2 := ceil_ext c t hc ht
  clear hc ht
  go_enter Try.func36, Try.ntmps36
  go_wp2
  go_ret
  exact ⟨rfl, rfl⟩
theorem int_float (j : Nat) : floatOfInt .f64 (j : Int) = Ieee.intOfF j := by
  show FloatKind.f64.nearest (j : Int) = Ieee.intOfF j
  unfold FloatKind.nearest
  rw [show decide ((j : Int) < 0) = false from decide_eq_false (by omega), Int.natAbs_natCast]
  rfl
theorem toI (u : Nat) (hu : u ≤ 2 ^ 22) (hx : (Ieee.double.read (Ieee.intOfF u)).toInt .zero = some (u : Int)) : floatToIntVal .f64 (Ieee.intOfF u) .i64 = some (u : Int) := by
  unfold floatToIntVal
  rw [show (FloatKind.f64.decode (Ieee.intOfF u)).toInt .zero = some (u : Int) from hx]
  have hr : IntKind.i64.min ≤ (u : Int) ∧ (u : Int) ≤ IntKind.i64.max := by
    show (-9223372036854775808 : Int) ≤ (u : Int) ∧ (u : Int) ≤ 9223372036854775807
    omega
  simp only [hr, and_self, if_true]
/-- The rank of a double up to 1 over so many numbers. -/
def ceilF (c : Nat) : Nat := match (Ieee.double.read (Ieee.double.write ((Ieee.double.read c).integral .up))).toInt .zero with | some k => k.toNat | none => 0
def rankF (t n : Nat) : Int := min (max (ceilF ((Ieee.double.mul t (Ieee.intOfF n)).getD 0) : Int) 1) n
set_option maxRecDepth 100000 in
theorem rank_c (t n : Nat) (w : World) (ht : t ≤ 1023 * 2 ^ 52) (hn : n ≤ 1000000) :
    Calls Try.prog 32 #[.float .f64 t, .int .i64 n] w fun e w' => e = .returned (.int .i64 (rankF t n)) ∧ w = w' := by
  obtain ⟨c, hm, hc⟩ := Ieee.mul_int t n ht hn
  obtain ⟨Q, hQ⟩ : ∃ Q, Q = 1074 := ⟨_, rfl⟩
  obtain ⟨u, hu, h1, h2, h3⟩ := Ieee.ceil_int Q c hQ hc
  have hC := Lib.hid (fun W => Ceil_any c _ (by omega) h1 W)
  have hmul : ∀ w : World, (binOp .mul 23 (.float .f64 t) (.float .f64 (floatOfInt .f64 (n : Int)))).run Try.prog w = .ok (.float .f64 c) w := fun w => run_float_arith w .mul _ .f64 t _ c (by rw [int_float]; exact hm)
  have hconv : ∀ w : World, (convert 23 3 (.float .f64 (Ieee.intOfF u))).run Try.prog w = .ok (.int .i64 u) w := fun w => run_convert_float_int w 23 3 .f64 .i64 _ u (by kernel_rfl) Try.underlying3 (toI u hu h2)
  have hr : rankF t n = min (max (u : Int) 1) n := by
    have hcf : ceilF c = u := by unfold ceilF; rw [h1, h2]; simp
    unfold rankF
    rw [hm]
    show min (max (ceilF c : Int) 1) _ = _
    rw [hcf]
  rw [hr]
  generalize Ieee.intOfF u = f at *
  clear h1 h2 h3 hm hr hc hQ
  go_enter Try.func32, Try.ntmps32
  go_wp2_with (go_at_call 36; refine (hC.out _).mono ?_; rintro e w1 ⟨rfl, rfl⟩)
  go_ret
  exact ⟨rfl, rfl⟩
theorem from_run (w : World) (b : Nat) : (callFunc 30 #[.int .u64 (b : Int)]).run Try.prog w = .ok (.value (.float .f64 b)) w := by
  rw [@run_callFunc_extern Try.prog 30 _ Extern.MathFloatBits.float64frombits Try.func30 (by kernel_rfl) (by kernel_rfl) (by kernel_rfl) (by kernel_rfl)]
  rfl
def nanF : Nat := 9221120237041090561
theorem NaN_c (w : World) : Calls Try.prog 9 #[] w fun e w' => e = .returned (.float .f64 nanF) ∧ w = w' := by
  have e3 : ∀ w : World, (callFunc 30 #[.int .u64 9221120237041090561]).run Try.prog w = .ok (.value (.float .f64 9221120237041090561)) w := fun w => from_run w 9221120237041090561
  go_enter Try.func9, Try.ntmps9
  go_wp2
  go_ret
  exact ⟨rfl, rfl⟩

/-! ### a float within 0 and 1 -/
theorem max_run (q : Nat) (hN : (Ieee.double.read q).isNaN = false) (ts : Array TypeId) (t : TypeId) (w : World) : (Builtin.max_ ts t #[.float .f64 q, .float .f64 0]).run Try.prog w = .ok (.float .f64 (Ieee.maxF q)) w := by
  have ho : FloatKind.f64.format.order q 0 ≠ none := by
    show Ieee.double.order q 0 ≠ none
    unfold Ieee.Format.order
    rw [Ieee.read_zero]
    cases hd : Ieee.double.read q with
    | nan s t => rw [hd] at hN; simp [Ieee.Datum.isNaN] at hN
    | infinity s => simp [Ieee.Datum.order]
    | number s m i => simp [Ieee.Datum.order]
  unfold Ieee.maxF
  show _ = Result.ok (Value.float FloatKind.f64 (match FloatKind.f64.format.order q 0 with | some .gt => q | some .lt => 0 | some .eq => if (FloatKind.f64.decode q).neg then 0 else q | none => 0)) w
  cases h : FloatKind.f64.format.order q 0 with
  | none => exact absurd h ho
  | some o => cases o <;> simp [Builtin.max_, Builtin.max2, h]
theorem min_run (q : Nat) (hN : (Ieee.double.read q).isNaN = false) (ts : Array TypeId) (t : TypeId) (w : World) : (Builtin.min_ ts t #[.float .f64 q, .float .f64 4607182418800017408]).run Try.prog w = .ok (.float .f64 (Ieee.minF q)) w := by
  have ho : FloatKind.f64.format.order q 4607182418800017408 ≠ none := by
    show Ieee.double.order q 4607182418800017408 ≠ none
    unfold Ieee.Format.order
    obtain ⟨m, i, e, _⟩ := Ieee.read_units 4607182418800017408 (by decide)
    rw [e]
    cases hd : Ieee.double.read q with
    | nan s t => rw [hd] at hN; simp [Ieee.Datum.isNaN] at hN
    | infinity s => simp [Ieee.Datum.order]
    | number s m i => simp [Ieee.Datum.order]
  unfold Ieee.minF
  show _ = Result.ok (Value.float FloatKind.f64 (match FloatKind.f64.format.order q 4607182418800017408 with | some .gt => 4607182418800017408 | some .lt => q | some .eq => if (FloatKind.f64.decode q).neg then q else 4607182418800017408 | none => 0)) w
  cases h : FloatKind.f64.format.order q 4607182418800017408 with
  | none => exact absurd h ho
  | some o => cases o <;> simp [Builtin.min_, Builtin.min2, h]
def atL : Int → List Pr2 → Nat
  | _, [] => nanF
  | k, x :: l => if k - x.val ≤ 0 then floatOfInt .f64 x.key else atL (k - x.val) l
def atF (q : Nat) (l : List Pr2) (many : Nat) : Nat := if many = 0 ∨ (Ieee.double.read q).isNaN = true then nanF else atL (rankF (Ieee.clampF q) many) l
theorem nan_order (q : Nat) : (FloatKind.f64.format.order q q != some .eq) = (Ieee.double.read q).isNaN := by
  by_cases h : (Ieee.double.read q).isNaN = true
  · rw [h]
    show (Ieee.double.order q q != some .eq) = true
    rw [Ieee.order_nan q q h]
    rfl
  · have h' : (Ieee.double.read q).isNaN = false := by simpa using h
    rw [h']
    show (Ieee.double.order q q != some .eq) = false
    rw [show Ieee.double.order q q = some .eq from Ieee.order_self _ h']
    rfl

set_option maxHeartbeats 1000000 in
set_option maxRecDepth 100000 in
theorem at_c (S : Nat → Prop) (r : Nat) (l : List Pr2) (many q : Nat) (w : World) (H : PR w S r l many) (hq : q < 2 ^ 64) :
    Calls Try.prog 20 #[.pointer (some ⟨r, 0, none⟩), .float .f64 q] w fun e w' => e = .returned (.float .f64 (atF q l many)) ∧ Below w.heap.size w w' := by
  obtain ⟨v, h1, h2, _⟩ := H.ex
  have hsm := H.small
  have hmost := H.most
  obtain ⟨p, c, rfl, hn, hnc, _, hR, _⟩ := owns_row h2
  have c0 := h1.cell 0
  have c1 := h1.cell 1
  have HI := Lib.hid (fun W => isNaN_any q W)
  have HN := Lib.hid (fun W => NaN_c W)
  have HR := Lib.hid (And.intro hR H.vals)
  clear h1 h2 H hR
  by_cases hz : many = 0
  · subst hz
    have hat : atF q l 0 = nanF := if_pos (.inl rfl)
    rw [hat]
    go_enter Try.func20, Try.ntmps20
    go_wp2_with (first | (go_at_call 9; refine (HN.out _).mono ?_; rintro e w1 ⟨rfl, rfl⟩))
    go_ret
    exact ⟨rfl, Below.refl _ _⟩
  have hz1 : ((many : Int) == 0) = false := by rw [beq_eq_false_iff_ne]; omega
  have hz2 : ¬ (many : Int) = 0 := by omega
  by_cases hnan : (Ieee.double.read q).isNaN = true
  · have hat : atF q l many = nanF := if_pos (.inr hnan)
    have hno := nan_order q
    rw [hnan] at hno
    rw [hat]
    go_enter Try.func20, Try.ntmps20
    go_wp2_with (first | (go_at_call 31; refine (HI.out _).mono ?_; rintro e w1 ⟨rfl, rfl⟩) | (go_at_call 9; refine (HN.out _).mono ?_; rintro e w1 ⟨rfl, rfl⟩))
    go_ret
    exact ⟨rfl, Below.refl _ _⟩
  have hN : (Ieee.double.read q).isNaN = false := by simpa using hnan
  have hat : atF q l many = atL (rankF (Ieee.clampF q) many) l := if_neg (fun c => c.elim hz hnan)
  rw [hat]
  have hno := nan_order q
  rw [hN] at hno
  have hmx := fun W => max_run q hN #[23, 23] 23 W
  have hmn := fun W => min_run (Ieee.maxF q) (Ieee.maxF_num q hN) #[23, 23] 23 W
  have hrk := Lib.hid (fun W => rank_c (Ieee.clampF q) many W (Ieee.clampF_le q hq hN) (by omega))
  have hrb : -1000000 ≤ rankF (Ieee.clampF q) many ∧ rankF (Ieee.clampF q) many ≤ 1000000 := by unfold rankF; omega
  generalize hK0 : rankF (Ieee.clampF q) many = k0 at hrk hrb ⊢
  clear hK0 hat hnan
  go_enter Try.func20, Try.ntmps20
  go_wp2_with (first
    | (go_at_call 31; refine (HI.out _).mono ?_; rintro e w1 ⟨rfl, rfl⟩)
    | (go_at_call 32; refine (hrk.out _).mono ?_; rintro e w1 ⟨rfl, rfl⟩))
  clear hmx hmn hno
  go_loopw [5, 31] (fun s5 s31 wr => ∃ (i : Nat) (k : Int), i ≤ l.length ∧ s31 = .int .i64 i ∧ s5 = .int .i64 k ∧ -1000000 ≤ k ∧ k ≤ 1000000 ∧ atL k (l.drop i) = atL k0 l ∧ Below w.heap.size w wr) (fun _ s31 _ => l.length - (RowKit.intOf s31).toNat)
  case atStart => exact ⟨0, k0, Nat.zero_le _, rfl, rfl, hrb.1, hrb.2, rfl, Below.refl _ _⟩
  case round =>
    obtain ⟨i, k, hi, rfl, rfl, hk0, hk1, hat, hb⟩ := hrel
    by_cases hlt : i < l.length
    · have hlt1 : (i : Int) < l.length := by omega
      obtain ⟨a, rfl, m0, m1⟩ := (HR.out.1.below hb) i hlt
      obtain ⟨x, hx⟩ : ∃ x, x = l[i] := ⟨_, rfl⟩
      rw [← hx] at m0 m1
      have hvb := HR.out.2 x (by rw [hx]; exact List.getElem_mem hlt)
      have hdr : l.drop i = x :: l.drop (i + 1) := by rw [hx]; exact (List.getElem_cons_drop hlt).symm
      rw [hdr, atL] at hat
      have hw3 : IntKind.i64.wrap ((i : Int) + 1) = (i : Int) + 1 := by rw [IntKind.wrap_i64]; omega
      have hws : IntKind.i64.wrap (k - x.val) = k - x.val := by rw [IntKind.wrap_i64]; omega
      have hA : Below wr.heap.size wr (wr.alloc (.cells #[.int .i64 x.key, .int .i64 x.val] 58)) := (Below.refl _ _).alloc (Nat.le_refl _) _
      have hb2 := Lib.hid (hb.trans (hA.mono hb.size))
      clear hb hA hx hdr
      by_cases hend : k - x.val ≤ 0
      · rw [if_pos hend] at hat
        have HD := Lib.hid hat
        clear hat
        go_wp2_with fail
        go_ret
        exact ⟨by rw [← HD.out]; rfl, hb2.out⟩
      · rw [if_neg hend] at hat
        have HD := Lib.hid hat
        clear hat
        go_wp2_with fail
        go_roundw
        case rel => exact ⟨i + 1, k - x.val, by omega, rfl, rfl, by omega, by omega, HD.out, hb2.out⟩
        case measure => simp only [RowKit.intOf]; omega
    · obtain rfl : i = l.length := by omega
      have hlt1 : ¬ (l.length : Int) < l.length := by omega
      rw [List.drop_length, atL] at hat
      have HD := Lib.hid (And.intro hat hb)
      clear hat hb
      go_wp2_with (go_at_call 9; refine (HN.out _).mono ?_; rintro e w1 ⟨rfl, rfl⟩)
      go_ret
      exact ⟨by rw [← HD.out.1]; rfl, HD.out.2⟩
end Go.Proofs.Ytajklhlgakpgiaa
