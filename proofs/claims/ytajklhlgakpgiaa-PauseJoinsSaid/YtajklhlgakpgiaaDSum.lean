/-
  Sum, by contract.
-/
import Derived.Test.YtajklhlgakpgiaaDJoin
namespace Go.Proofs.Ytajklhlgakpgiaa
open Go.RowKit Go.Lib

def sumFrom : Int → List Pr2 → Int
  | s, [] => s
  | s, x :: l => if 0 < x.key ∧ (1099511627776 - s) / x.key < x.val then 1099511627776 else sumFrom (s + x.key * x.val) l
/-- Numbers within their range. -/
def KB (l : List Pr2) : Prop := ∀ x ∈ l, 0 ≤ x.key ∧ x.key ≤ 1099511627776
theorem KB.ins {l : List Pr2} {n v : Int} (h : KB l) (hn : 0 ≤ n ∧ n ≤ 1099511627776) : KB (insP n v l) := by
  induction l with
  | nil =>
    intro x hx
    simp only [insP, List.mem_singleton] at hx
    subst hx
    exact hn
  | cons y l ih =>
    have h1 := h y (List.mem_cons_self ..)
    have h2 : KB l := fun z hz => h z (List.mem_cons_of_mem _ hz)
    intro x hx
    simp only [insP] at hx
    split at hx
    · rcases List.mem_cons.1 hx with rfl | hx
      · exact h1
      · exact ih h2 x hx
    · split at hx
      · rcases List.mem_cons.1 hx with rfl | hx
        · exact hn
        · exact h2 x hx
      · rcases List.mem_cons.1 hx with rfl | hx
        · exact hn
        · exact h x hx
theorem clampP_in (n : Int) : 0 ≤ clampP n ∧ clampP n ≤ 1099511627776 := by unfold clampP; omega

set_option maxHeartbeats 1000000 in
set_option maxRecDepth 100000 in
theorem sum_c (S : Nat → Prop) (r : Nat) (l : List Pr2) (many : Int) (w : World) (H : PR w S r l many) (hK : KB l) :
    Calls Try.prog 14 #[.pointer (some ⟨r, 0, none⟩)] w fun e w' => e = .returned (.int .i64 (sumFrom 0 l)) ∧ Below w.heap.size w w' := by
  obtain ⟨v, h1, h2, _⟩ := H.ex
  have hsm := H.small
  have hmost := H.most
  obtain ⟨p, c, rfl, hn, hnc, _, hR, _⟩ := owns_row h2
  have c0 := h1.cell 0
  have HR := Lib.hid (And.intro hR (And.intro hK H.vals))
  have mixed : Try.prog.follows .mixedOrders = true := by kernel_rfl
  clear h1 h2 H hR hK
  go_enter Try.func14, Try.ntmps14
  go_wp2_with fail
  go_loopw [3, 11] (fun s3 s11 wr => ∃ (i : Nat) (s : Int), i ≤ l.length ∧ s11 = .int .i64 i ∧ s3 = .int .i64 s ∧ 0 ≤ s ∧ s ≤ 1099511627776 ∧ sumFrom s (l.drop i) = sumFrom 0 l ∧ Below w.heap.size w wr) (fun _ s11 _ => l.length - (RowKit.intOf s11).toNat)
  case atStart => exact ⟨0, 0, Nat.zero_le _, rfl, rfl, Int.le_refl _, by omega, rfl, Below.refl _ _⟩
  case round =>
    obtain ⟨i, s, hi, rfl, rfl, hs0, hs1, hsf, hb⟩ := hrel
    by_cases hlt : i < l.length
    · have hlt1 : (i : Int) < l.length := by omega
      obtain ⟨a, rfl, k0, k1⟩ := (HR.out.1.below hb) i hlt
      obtain ⟨x, hx⟩ : ∃ x, x = l[i] := ⟨_, rfl⟩
      rw [← hx] at k0 k1
      have hkb := HR.out.2.1 x (by rw [hx]; exact List.getElem_mem hlt)
      have hvb := HR.out.2.2 x (by rw [hx]; exact List.getElem_mem hlt)
      have hdr : l.drop i = x :: l.drop (i + 1) := by rw [hx]; exact (List.getElem_cons_drop hlt).symm
      rw [hdr, sumFrom] at hsf
      have hw3 : IntKind.i64.wrap ((i : Int) + 1) = (i : Int) + 1 := by rw [IntKind.wrap_i64]; omega
      have hA : Below wr.heap.size wr (wr.alloc (.cells #[.int .i64 x.key, .int .i64 x.val] 58)) := (Below.refl _ _).alloc (Nat.le_refl _) _
      have bB := Blk.new wr 58 #[.int .i64 x.key, .int .i64 x.val]
      have m0 := bB.cell 0
      have m1 := bB.cell 1
      have hb2 := hb.trans (hA.mono hb.size)
      have hprod : 0 ≤ x.key * x.val ∧ x.key * x.val ≤ 1099511627776 * 1000000 := ⟨Int.mul_nonneg hkb.1 hvb.1, Int.mul_le_mul hkb.2 (by omega) hvb.1 (by omega)⟩
      obtain ⟨P, hP⟩ : ∃ P, P = x.key * x.val := ⟨_, rfl⟩
      rw [← hP] at hprod hsf
      have hwm : IntKind.i64.wrap (x.key * x.val) = P := by rw [IntKind.wrap_i64, ← hP]; omega
      have hwa : IntKind.i64.wrap (s + P) = s + P := by rw [IntKind.wrap_i64]; omega
      obtain ⟨kx, hkx⟩ : ∃ kx, kx = x.key := ⟨_, rfl⟩
      obtain ⟨vx, hvx⟩ : ∃ vx, vx = x.val := ⟨_, rfl⟩
      rw [← hkx] at k0 hwm hsf hkb
      rw [← hvx] at k1 hwm hsf hvb
      rw [← hkx, ← hvx] at m0 m1 hA hb2
      by_cases hpos : 0 < kx
      · obtain ⟨d, hd⟩ : ∃ d, d = (1099511627776 - s) / kx := ⟨_, rfl⟩
        rw [← hd] at hsf
        have hws : IntKind.i64.wrap (1099511627776 - s) = 1099511627776 - s := by rw [IntKind.wrap_i64]; omega
        have hwq : IntKind.i64.wrap ((1099511627776 - s).tdiv kx) = d := by rw [IntWalk.i64_quo _ _ (by omega), hd]
        have hpos1 : decide (0 < kx) = true := decide_eq_true hpos
        have hne0 : ¬ kx = 0 := by omega
        have hne1 : (kx == 0) = false := beq_eq_false_iff_ne.2 hne0
        by_cases hover : d < vx
        · have ho1 : decide (d < vx) = true := decide_eq_true hover
          rw [if_pos ⟨hpos, hover⟩] at hsf
          have HD := Lib.hid (And.intro hsf hb2)
          clear hsf hb hb2 hdr hx hkx hvx hP hd hA bB hwm hwa hprod
          go_upto_region 5 with fail
          go_quiet (fail)
          go_wp2_with fail
          go_ret
          refine ⟨?_, below_drewN HD.out.2 _⟩
          rw [← HD.out.1]
          rfl
        · have ho1 : decide (d < vx) = false := decide_eq_false hover
          rw [if_neg (fun c => hover c.2)] at hsf
          have hle : s + P ≤ 1099511627776 := by
            have h1 : kx * d ≤ 1099511627776 - s := by rw [hd]; exact Int.mul_ediv_self_le (by omega)
            have h2 : kx * vx ≤ kx * d := Int.mul_le_mul_of_nonneg_left (by omega) (by omega)
            have h3 : P = kx * vx := by rw [hP, hkx, hvx]
            omega
          have HD := Lib.hid (And.intro hsf (And.intro hb2 (And.intro hle hprod)))
          clear hsf hb hb2 hdr hx hkx hvx hP hd hA bB hprod hle
          go_upto_region 5 with fail
          go_quiet (fail)
          go_wp2_with fail
          go_roundw
          case rel => exact ⟨i + 1, s + P, by omega, rfl, rfl, by have := HD.out.2.2.2; omega, HD.out.2.2.1, HD.out.1, below_drewN HD.out.2.1 _⟩
          case measure => simp only [RowKit.intOf]; omega
      · have hz : kx = 0 := by omega
        rw [if_neg (fun c => hpos c.1)] at hsf
        have hpos1 : decide (0 < kx) = false := decide_eq_false hpos
        have hP0 : P = 0 := by rw [hP, ← hkx, hz, Int.zero_mul]
        have HD := Lib.hid (And.intro hsf (And.intro hb2 hP0))
        clear hsf hb hb2 hdr hx hkx hvx hP hA bB hprod hP0 hz
        go_upto_region 5 with fail
        go_quiet (fail)
        go_wp2_with fail
        go_roundw
        case rel => exact ⟨i + 1, s + P, by omega, rfl, rfl, by have := HD.out.2.2; omega, by have := HD.out.2.2; omega, HD.out.1, below_drewN HD.out.2.1 _⟩
        case measure => simp only [RowKit.intOf]; omega
    · obtain rfl : i = l.length := by omega
      have hlt1 : ¬ (l.length : Int) < l.length := by omega
      rw [List.drop_length, sumFrom] at hsf
      have HD := Lib.hid (And.intro hsf hb)
      clear hsf hb
      go_wp2_with fail
      go_ret
      exact ⟨by rw [HD.out.1]; rfl, HD.out.2⟩
end Go.Proofs.Ytajklhlgakpgiaa
