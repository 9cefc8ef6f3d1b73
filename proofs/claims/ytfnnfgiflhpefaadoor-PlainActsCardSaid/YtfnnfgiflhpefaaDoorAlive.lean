/-
  The chapter's example (amblerlaw26.alive): it answers true and leaves what was.
-/
import Derived.Test.YtfnnfgiflhpefaaDoorDiff
namespace Go.Proofs.YtfnnfgiflhpefaaDoor
open Go.RowKit Go.Lib

theorem put_al1 : putNo 2 [] 5 = 0 ∧ putL 2 [] 5 1 = [⟨5, 1⟩] := by decide
theorem put_al2 : putNo 2 [⟨5, 1⟩] 2 = 0 ∧ putL 2 [⟨5, 1⟩] 2 7 = [⟨2, 7⟩, ⟨5, 1⟩] := by decide
theorem put_al3 : putNo 2 [⟨2, 7⟩, ⟨5, 1⟩] 6 = 2 := by decide

/-- A literal of pairs. -/
theorem owns_lit (w : World) (b n : Nat) (xs : List Pr2) (hn : xs.length = n) (hm : n ≤ 1000) (h : Blk w b 35 (flat2 xs).toArray) : w.ownsRow 0 35 2 (.slice (some ⟨b, 0, none⟩) n n) n (flat2 xs) := by
  refine ⟨by rw [flat2_length, hn], .inr ⟨b, n, (flat2 xs).toArray, rfl, Nat.zero_le _, h, Nat.le_refl _, by unfold maxLen; omega, by simp [flat2_length, hn], ?_⟩⟩
  rw [List.take_of_length_le (by rw [flat2_length]; omega)]

set_option maxHeartbeats 4000000 in
set_option maxRecDepth 100000 in
theorem alive_c (ea : Nat → Addr) (w : World) (hE : ErrsAt w ea) :
    Calls Tryd.prog 6 #[] w fun e w' => e = .returned (.bool true) ∧ Below w.heap.size w w' := by
  have HE := Lib.hid hE
  clear hE
  go_enter Tryd.func6, Tryd.ntmps6
  go_wp2_with fail
  refine (new_c 2 w).mono ?_
  rintro e w1 ⟨rfl, p1, b1⟩
  have E1 := HE.out.same b1
  have C1 := Lib.hid (put_c _ _ 2 [] 5 1 ea w1 p1 (E1.one 1 (by omega)) (by simp))
  have HB1 := Lib.hid (And.intro b1 E1)
  clear b1 E1 p1
  go_wp2_with fail
  refine C1.out.mono ?_
  rw [put_al1.1, put_al1.2]
  rintro e w2 ⟨rfl, S2, p2, c2, n2⟩
  have b2 : Below w.heap.size w w2 := by
    have := HB1.out.1
    exact this.trans (c2.below (fun k hk => by omega) (by have := this.size; omega))
  have E2 : ErrsAt w2 ea := HE.out.below b2 (by omega)
  have C2 := Lib.hid (put_c _ _ 2 [⟨5, 1⟩] 2 7 ea w2 p2 (E2.one 1 (by omega)) (by simp))
  have HB2 := Lib.hid (And.intro b2 (And.intro E2 (And.intro c2 n2)))
  clear b2 E2 p2 n2 c2
  rw [errV_zero]
  go_wp2_with fail
  refine C2.out.mono ?_
  rw [put_al2.1, put_al2.2]
  rintro e w3 ⟨rfl, S3, p3, c3, n3⟩
  have hS2 : ∀ k, S2 k → w.heap.size ≤ k := fun k hk => by
    rcases HB2.out.2.2.2 k hk with h | h
    · omega
    · have := HB1.out.1.size; omega
  have b3 : Below w.heap.size w w3 := HB2.out.1.trans (c3.below hS2 HB2.out.1.size)
  have E3 : ErrsAt w3 ea := HE.out.below b3 (by omega)
  have hS3 : ∀ k, S3 k → w.heap.size ≤ k := fun k hk => by
    rcases n3 k hk with h | h
    · exact hS2 k h
    · have := HB2.out.1.size; omega
  have C3 := Lib.hid (pairs_c S3 _ 2 _ w3 p3)
  have HB3 := Lib.hid (And.intro b3 (And.intro E3 (And.intro p3 hS3)))
  clear b3 E3 p3 n3 c3 hS2 hS3
  rw [errV_zero]
  go_wp2_with fail
  refine C3.out.mono ?_
  rintro e w4 ⟨x, rfl, o4, k4, b4⟩
  obtain ⟨p, c, rfl, _⟩ := owns_row o4
  have HB4 := Lib.hid (And.intro o4 (And.intro k4 b4))
  clear o4 k4 b4
  go_wp2_with fail
  have bA : Below w4.heap.size w4 (w4.alloc (.cells #[.int .u64 2, .int .u64 7, .int .u64 5, .int .u64 1] 35)) := (Below.refl _ _).alloc (Nat.le_refl _) _
  refine (same_c (.slice p 2 c) (.slice (some ⟨w4.heap.size, 0, none⟩) 2 2) 2 2 [⟨2, 7⟩, ⟨5, 1⟩] [⟨2, 7⟩, ⟨5, 1⟩] _ (by omega) ?_ ?_).mono ?_
  · exact owns_chg (S := fun _ => False) (Chg.of bA) HB4.out.1 fun _ _ h => h
  · exact owns_lit _ _ 2 [⟨2, 7⟩, ⟨5, 1⟩] rfl (by omega) (Blk.new _ _ _)
  rintro e w5 ⟨rfl, b5⟩
  have b5' : Below w.heap.size w w5 := by
    have h1 := HB3.out.1
    have h2 := HB4.out.2.2
    have h3 := bA.size
    exact ((h1.trans (h2.mono h1.size)).trans (bA.mono (Nat.le_trans h1.size h2.size))).trans (b5.mono (Nat.le_trans h1.size (Nat.le_trans h2.size h3)))
  have p5 : PF w5 S3 w.heap.size 2 [⟨2, 7⟩, ⟨5, 1⟩] := ((HB3.out.2.2.1.below HB4.out.2.2).below bA).below b5
  have E5 : ErrsAt w5 ea := HE.out.below b5' (by omega)
  have C5 := Lib.hid (put_c S3 _ 2 _ 6 1 ea w5 p5 (E5.one 1 (by omega)) (by simp))
  have HB5 := Lib.hid (And.intro b5' E5)
  clear b5 b5' p5 E5 bA
  rw [decide_eq_true (rfl : [(⟨2, 7⟩ : Pr2), ⟨5, 1⟩] = [⟨2, 7⟩, ⟨5, 1⟩])]
  go_wp2_with fail
  refine C5.out.mono ?_
  rw [put_al3]
  rintro e w6 ⟨rfl, S6, p6, c6, n6⟩
  have b6 : Below w.heap.size w w6 := HB5.out.1.trans (c6.below HB3.out.2.2.2 HB5.out.1.size)
  have E6 : ErrsAt w6 ea := HE.out.below b6 (by omega)
  have C6 := Lib.hid (num_err ea 1 (by omega) w6 E6)
  have HB6 := Lib.hid b6
  clear b6 E6 p6 c6 n6
  rw [errV_succ]
  go_wp2_with fail
  refine C6.out.mono ?_
  rintro e w7 ⟨rfl, b7⟩
  have HB7 := Lib.hid b7
  clear b7
  go_wp2_with fail
  go_ret
  exact ⟨rfl, HB6.out.trans (HB7.out.mono HB6.out.size)⟩
end Go.Proofs.YtfnnfgiflhpefaaDoor
