/-
  Smooth, by contract, of all floats. (Printed by mksmooth.py.)
-/
import Derived.Test.YtajklhlgakpgiaaDQuad
import Derived.Test.YtajklhlgakpgiaaFloMono
namespace Go.Proofs.Ytajklhlgakpgiaa
open Go.RowKit Go.Lib

def NanN (c : Nat) : Prop := (Ieee.double.read c).isNaN = true
theorem nan_read (t : Nat) : NanN ((t % 2) * 2 ^ 63 + 0x7ff0000000000000 + 1 + (t / 2) % (2 ^ 52 - 1)) := by
  unfold NanN
  have e2 : Ieee.double.binade = 2 ^ 52 := rfl
  have e3 : Ieee.double.infRung = 2047 * 2 ^ 52 := by decide
  have e4 : Ieee.double.signWeight = 2 ^ 63 := rfl
  obtain ⟨c, hc⟩ : ∃ c, c = (t % 2) * 2 ^ 63 + 0x7ff0000000000000 + 1 + (t / 2) % (2 ^ 52 - 1) := ⟨_, rfl⟩
  rw [← hc]
  unfold Ieee.Format.read
  rw [e2, e3, e4]
  simp only
  have h1 : c % 2 ^ 63 = 0x7ff0000000000000 + 1 + (t / 2) % (2 ^ 52 - 1) := by omega
  rw [h1, if_neg (by omega), if_neg (by omega), if_neg (by omega)]
  rfl
/-- An operation's answer: the bits that it fixes, or some NaN. -/
def OpR (op : BinOp) (a b c : Nat) : Prop := floatBits op .f64 a b = some c ∨ (floatBits op .f64 a b = none ∧ NanN c)
theorem op_run (op : BinOp) (hop : op = .add ∨ op = .sub ∨ op = .mul) (t : TypeId) (a b : Nat) (w : World) :
    ∃ c w', (binOp op t (.float .f64 a) (.float .f64 b)).run Try.prog w = .ok (.float .f64 c) w' ∧ OpR op a b c ∧ Below w.heap.size w w' := by
  cases h : floatBits op .f64 a b with
  | some c => exact ⟨c, w, run_float_arith w op t .f64 a b c h, .inl h, Below.refl _ _⟩
  | none =>
    have h2 : (binOp op t (.float .f64 a) (.float .f64 b)).run Try.prog w = .ok (.float .f64 ((Question.nanBits .f64 a b).cut (w.tape w.drawn (.nanBits .f64 a b)))) w.drew := by
      unfold floatBits at h
      rcases hop with rfl | rfl | rfl <;> simp only at h <;> simp only [binOp, Op.floatArith, h] <;> rfl
    refine ⟨_, _, h2, .inr ⟨h, ?_⟩, below_drew w⟩
    generalize w.tape w.drawn (.nanBits .f64 a b) = n
    exact nan_read n
theorem op_nan (op : BinOp) (hop : op = .add ∨ op = .sub ∨ op = .mul) (a b : Nat) (h : NanN a ∨ NanN b) : floatBits op .f64 a b = none := by
  have num : ∀ x, NanN x → ∃ s t, Ieee.double.read x = .nan s t := fun x hx => by
    unfold NanN at hx
    cases hd : Ieee.double.read x with
    | nan s t => exact ⟨s, t, rfl⟩
    | infinity s => rw [hd] at hx; cases hx
    | number s m i => rw [hd] at hx; cases hx
  have e : FloatKind.f64.format = Ieee.double := rfl
  rcases h with h | h
  · obtain ⟨s, t, hs⟩ := num a h
    rcases hop with rfl | rfl | rfl
    · show Ieee.double.add a b = none
      unfold Ieee.Format.add; rw [hs]; rfl
    · show Ieee.double.sub a b = none
      unfold Ieee.Format.sub; rw [hs]; rfl
    · show Ieee.double.mul a b = none
      unfold Ieee.Format.mul; rw [hs]; rfl
  · obtain ⟨s, t, hs⟩ := num b h
    rcases hop with rfl | rfl | rfl
    · show Ieee.double.add a b = none
      unfold Ieee.Format.add; rw [hs]; cases Ieee.double.read a <;> rfl
    · show Ieee.double.sub a b = none
      unfold Ieee.Format.sub; rw [hs]; cases Ieee.double.read a <;> rfl
    · show Ieee.double.mul a b = none
      unfold Ieee.Format.mul; rw [hs]; cases Ieee.double.read a <;> rfl
theorem OpR.same {op : BinOp} {a b c d : Nat} (h : OpR op a b c) (k : OpR op a b d) : c = d ∨ (NanN c ∧ NanN d) := by
  rcases h with h | ⟨h, hn⟩ <;> rcases k with k | ⟨k, kn⟩
  · rw [h] at k; exact .inl (Option.some.inj k)
  · rw [h] at k; cases k
  · rw [h] at k; cases k
  · exact .inr ⟨hn, kn⟩
theorem OpR.nan {op : BinOp} {a b c : Nat} (h : OpR op a b c) (hop : op = .add ∨ op = .sub ∨ op = .mul) (hb : NanN b) : NanN c := by
  rcases h with h | ⟨_, h⟩
  · rw [op_nan op hop a b (.inr hb)] at h; cases h
  · exact h
/-- What goes from 'old' towards 'now'. -/
def Res (old now wt c : Nat) : Prop := ∃ c1 c2, OpR .sub now old c1 ∧ OpR .mul wt c1 c2 ∧ OpR .add old c2 c
theorem Res.same {old now wt c d : Nat} (h : Res old now wt c) (k : Res old now wt d) : c = d ∨ (NanN c ∧ NanN d) := by
  obtain ⟨c1, c2, h1, h2, h3⟩ := h
  obtain ⟨d1, d2, k1, k2, k3⟩ := k
  have hs : (c2 = d2 ∨ (NanN c2 ∧ NanN d2)) := by
    rcases h1.same k1 with rfl | ⟨n1, n2⟩
    · exact h2.same k2
    · exact .inr ⟨h2.nan (.inr (.inr rfl)) n1, k2.nan (.inr (.inr rfl)) n2⟩
  rcases hs with rfl | ⟨n1, n2⟩
  · exact h3.same k3
  · exact .inr ⟨h3.nan (.inl rfl) n1, k3.nan (.inl rfl) n2⟩
theorem same_of {c d : Nat} (h : c = d ∨ (NanN c ∧ NanN d)) : c = d ∨ (FloatKind.f64.format.order c c = none ∧ FloatKind.f64.format.order d d = none ∧ FloatKind.f64.format.order c d = none) := by
  rcases h with h | ⟨h, k⟩
  · exact .inl h
  · exact .inr ⟨Ieee.order_nan _ _ h, Ieee.order_nan _ _ k, Ieee.order_nan _ _ h⟩

set_option maxHeartbeats 1000000 in
theorem smooth_1 (old now wt : Nat) (w : World) (hoo : FloatKind.f64.format.order old old = none) :
    Calls Try.prog 29 #[.float .f64 old, .float .f64 now, .float .f64 wt] w fun e w' => e = .returned (.float .f64 now) ∧ w = w' := by
  have HI := Lib.hid isNaN_any
  go_enter Try.func29, Try.ntmps29
  go_wp2_with (go_at_call 31; (with_reducible refine (HI.out _ _).mono ?_); rintro e w1 ⟨rfl, rfl⟩)
  go_ret
  exact ⟨rfl, rfl⟩

set_option maxHeartbeats 1000000 in
theorem smooth_2 (old now wt : Nat) (w : World) (hoo : FloatKind.f64.format.order old old = some .eq) (hww : FloatKind.f64.format.order wt wt = none) :
    Calls Try.prog 29 #[.float .f64 old, .float .f64 now, .float .f64 wt] w fun e w' => e = .returned (.float .f64 now) ∧ w = w' := by
  have HI := Lib.hid isNaN_any
  go_enter Try.func29, Try.ntmps29
  go_wp2_with (go_at_call 31; (with_reducible refine (HI.out _ _).mono ?_); rintro e w1 ⟨rfl, rfl⟩)
  go_ret
  exact ⟨rfl, rfl⟩

set_option maxHeartbeats 1000000 in
theorem smooth_3 (old now wt : Nat) (w : World) (hoo : FloatKind.f64.format.order old old = some .eq) (hww : FloatKind.f64.format.order wt wt = some .eq) (hw1 : FloatKind.f64.format.order wt 4607182418800017408 = some .gt) :
    Calls Try.prog 29 #[.float .f64 old, .float .f64 now, .float .f64 wt] w fun e w' => e = .returned (.float .f64 now) ∧ w = w' := by
  have HI := Lib.hid isNaN_any
  go_enter Try.func29, Try.ntmps29
  go_wp2_with (go_at_call 31; (with_reducible refine (HI.out _ _).mono ?_); rintro e w1 ⟨rfl, rfl⟩)
  go_ret
  exact ⟨rfl, rfl⟩

set_option maxHeartbeats 1000000 in
theorem smooth_4 (old now wt : Nat) (w : World) (hoo : FloatKind.f64.format.order old old = some .eq) (hww : FloatKind.f64.format.order wt wt = some .eq) (hw1 : FloatKind.f64.format.order wt 4607182418800017408 = some .eq) :
    Calls Try.prog 29 #[.float .f64 old, .float .f64 now, .float .f64 wt] w fun e w' => e = .returned (.float .f64 now) ∧ w = w' := by
  have HI := Lib.hid isNaN_any
  go_enter Try.func29, Try.ntmps29
  go_wp2_with (go_at_call 31; (with_reducible refine (HI.out _ _).mono ?_); rintro e w1 ⟨rfl, rfl⟩)
  go_ret
  exact ⟨rfl, rfl⟩

set_option maxHeartbeats 1000000 in
theorem smooth_5 (old now wt : Nat) (w : World) (hoo : FloatKind.f64.format.order old old = some .eq) (hww : FloatKind.f64.format.order wt wt = some .eq) (hw1 : FloatKind.f64.format.order wt 4607182418800017408 = some .lt) (hnn : FloatKind.f64.format.order now now = none) :
    Calls Try.prog 29 #[.float .f64 old, .float .f64 now, .float .f64 wt] w fun e w' => e = .returned (.float .f64 old) ∧ w = w' := by
  have HI := Lib.hid isNaN_any
  go_enter Try.func29, Try.ntmps29
  go_wp2_with (go_at_call 31; (with_reducible refine (HI.out _ _).mono ?_); rintro e w1 ⟨rfl, rfl⟩)
  go_ret
  exact ⟨rfl, rfl⟩

set_option maxHeartbeats 1000000 in
theorem smooth_6 (old now wt : Nat) (w : World) (hoo : FloatKind.f64.format.order old old = some .eq) (hww : FloatKind.f64.format.order wt wt = some .eq) (hw1 : FloatKind.f64.format.order wt 4607182418800017408 = some .lt) (hnn : FloatKind.f64.format.order now now = some .eq) (hw0 : FloatKind.f64.format.order wt 0 = some .lt) :
    Calls Try.prog 29 #[.float .f64 old, .float .f64 now, .float .f64 wt] w fun e w' => e = .returned (.float .f64 old) ∧ w = w' := by
  have HI := Lib.hid isNaN_any
  go_enter Try.func29, Try.ntmps29
  go_wp2_with (go_at_call 31; (with_reducible refine (HI.out _ _).mono ?_); rintro e w1 ⟨rfl, rfl⟩)
  go_ret
  exact ⟨rfl, rfl⟩

set_option maxHeartbeats 1000000 in
theorem smooth_7 (old now wt : Nat) (w : World) (hoo : FloatKind.f64.format.order old old = some .eq) (hww : FloatKind.f64.format.order wt wt = some .eq) (hw1 : FloatKind.f64.format.order wt 4607182418800017408 = some .lt) (hnn : FloatKind.f64.format.order now now = some .eq) (hw0 : FloatKind.f64.format.order wt 0 = some .eq) :
    Calls Try.prog 29 #[.float .f64 old, .float .f64 now, .float .f64 wt] w fun e w' => e = .returned (.float .f64 old) ∧ w = w' := by
  have HI := Lib.hid isNaN_any
  go_enter Try.func29, Try.ntmps29
  go_wp2_with (go_at_call 31; (with_reducible refine (HI.out _ _).mono ?_); rintro e w1 ⟨rfl, rfl⟩)
  go_ret
  exact ⟨rfl, rfl⟩

set_option maxHeartbeats 1000000 in
theorem smooth_8 (old now wt : Nat) (w : World) (hoo : FloatKind.f64.format.order old old = some .eq) (hww : FloatKind.f64.format.order wt wt = some .eq) (hw1 : FloatKind.f64.format.order wt 4607182418800017408 = some .lt) (hnn : FloatKind.f64.format.order now now = some .eq) (hw0 : FloatKind.f64.format.order wt 0 = some .gt) :
    Calls Try.prog 29 #[.float .f64 old, .float .f64 now, .float .f64 wt] w fun e w' => ∃ c, e = .returned (.float .f64 c) ∧ Res old now wt c ∧ Below w.heap.size w w' := by
  have HI := Lib.hid isNaN_any
  obtain ⟨c1, w1, r1, o1, b1⟩ := op_run .sub (.inr (.inl rfl)) 23 now old w
  obtain ⟨c2, w2, r2, o2, b2⟩ := op_run .mul (.inr (.inr rfl)) 23 wt c1 w1
  obtain ⟨c3, w3, r3, o3, b3⟩ := op_run .add (.inl rfl) 23 old c2 w2
  have HR := Lib.hid (And.intro (show Res old now wt c3 from ⟨c1, c2, o1, o2, o3⟩) ((b1.trans (b2.mono b1.size)).trans (b3.mono (Nat.le_trans b1.size b2.size))))
  clear o1 o2 o3 b1 b2 b3
  go_enter Try.func29, Try.ntmps29
  go_wp2_with (go_at_call 31; (with_reducible refine (HI.out _ _).mono ?_); rintro e w1 ⟨rfl, rfl⟩)
  go_ret
  exact ⟨c3, rfl, HR.out.1, HR.out.2⟩
end Go.Proofs.Ytajklhlgakpgiaa
