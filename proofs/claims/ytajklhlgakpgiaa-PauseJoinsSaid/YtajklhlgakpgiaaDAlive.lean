/-
  The chapter's example (amblerlaw34.alive); and what notes make of numbers.
-/
import Derived.Test.YtajklhlgakpgiaaDMean
namespace Go.Proofs.Ytajklhlgakpgiaa
open Go.RowKit Go.Lib

deriving instance DecidableEq for Pr2

def noteL (xs : List Int) : List Pr2 := xs.foldl (fun l n => addL (clampP n) 1 l) []
theorem noteL_snoc (xs : List Int) (n : Int) : noteL (xs ++ [n]) = addL (clampP n) 1 (noteL xs) := by simp [noteL]
theorem fold_notes (xs : List Int) : ∀ l, SortP l → SortP (xs.foldl (fun l n => addL (clampP n) 1 l) l) ∧ (xs.foldl (fun l n => addL (clampP n) 1 l) l).length ≤ l.length + xs.length := by
  induction xs with
  | nil => intro l h; exact ⟨h, Nat.le_refl _⟩
  | cons n xs ih =>
    intro l h
    obtain ⟨h1, h2⟩ := ih _ (addL_sort (n := clampP n) (k := 1) h)
    have h3 := addL_len (n := clampP n) (k := 1) h
    refine ⟨h1, ?_⟩
    simp only [List.foldl_cons, List.length_cons] at h2 ⊢
    omega
theorem noteL_len (xs : List Int) : (noteL xs).length ≤ xs.length := by have := (fold_notes xs [] List.Pairwise.nil).2; simpa [noteL] using this
theorem al_list : noteL [1, 2, 9] = [⟨1, 1⟩, ⟨2, 1⟩, ⟨9, 1⟩] := by decide
theorem al_sum : sumFrom 0 [⟨1, 1⟩, ⟨2, 1⟩, ⟨9, 1⟩] = 12 := by decide
theorem al_mean : meanF 12 3 = 4616189618054758400 := by decide +kernel
theorem al_nan : atF nanF [⟨1, 1⟩, ⟨2, 1⟩, ⟨9, 1⟩] 3 = nanF := if_pos (.inr (by decide +kernel))
theorem al_half : atF 4602678819172646912 [⟨1, 1⟩, ⟨2, 1⟩, ⟨9, 1⟩] 3 = 4611686018427387904 := by decide +kernel
theorem al_kb : KB [⟨1, 1⟩, ⟨2, 1⟩, ⟨9, 1⟩] := by
  intro x hx
  simp only [List.mem_cons, List.not_mem_nil, or_false] at hx
  rcases hx with rfl | rfl | rfl <;> decide
theorem al_most : mostP [⟨1, 1⟩, ⟨2, 1⟩, ⟨9, 1⟩] = 9 := by decide

set_option maxHeartbeats 1000000 in
set_option maxRecDepth 100000 in
theorem alive_c (w : World) : Calls Try.prog 7 #[] w fun e w' => e = .returned (.bool true) ∧ Below w.heap.size w w' := by
  have o1 : (FloatKind.f64.format.order 4616189618054758400 4616189618054758400 == some .eq) = true := by decide +kernel
  have o2 : (FloatKind.f64.format.order 4611686018427387904 4611686018427387904 == some .eq) = true := by decide +kernel
  have o3 : (FloatKind.f64.format.order nanF nanF != some .eq) = true := by decide +kernel
  go_enter Try.func7, Try.ntmps7
  go_wp2_with fail
  go_loopw [9] (fun s9 wr => ∃ (i : Nat), i ≤ 3 ∧ s9 = .int .i64 i ∧ Blk wr (w.heap.size + 1) 3 #[.int .i64 1, .int .i64 2, .int .i64 9] ∧ Below w.heap.size w wr ∧ ∃ S, PR wr S w.heap.size (noteL ([1, 2, 9].take i)) i ∧ ∀ k, S k → w.heap.size ≤ k ∧ k ≠ w.heap.size + 1) (fun s9 _ => 3 - (RowKit.intOf s9).toNat)
  case atStart =>
    refine ⟨0, by omega, rfl, ?_, ((Below.refl _ _).alloc (Nat.le_refl _) _).alloc (by simp) _, fun k => k = w.heap.size, ⟨⟨.slice none 0 0, (Blk.new _ _ _).alloc _, World.ownsRow_nil _ _ _ _, fun k hk => (by cases hk)⟩, rfl, fun k hk => by subst hk; simp; omega, List.Pairwise.nil, Nat.zero_le _, fun x hx => (by cases hx), by decide⟩, fun k hk => by omega⟩
    have := Blk.new (w.alloc (.cells #[.slice none 0 0, .int .i64 0] 48)) 3 #[.int .i64 1, .int .i64 2, .int .i64 9]
    simpa using this
  case round =>
    obtain ⟨i, hi, rfl, hB, hb, S, hP, hS⟩ := hrel
    by_cases hlt : i < 3
    · have hlt1 : (i : Int) < 3 := by omega
      obtain ⟨n, hn⟩ : ∃ n, ([1, 2, 9] : List Int)[i]? = some n := ⟨_, List.getElem?_eq_getElem (by simpa using hlt)⟩
      have hc : wr.cell? ⟨w.heap.size + 1, i, none⟩ = some (.int .i64 n) := by
        rw [hB.cell]
        match i, hlt, hn with
        | 0, _, hn => injection hn with hn; subst hn; rfl
        | 1, _, hn => injection hn with hn; subst hn; rfl
        | 2, _, hn => injection hn with hn; subst hn; rfl
      have hw3 : IntKind.i64.wrap ((i : Int) + 1) = (i : Int) + 1 := by rw [IntKind.wrap_i64]; omega
      have hll : (noteL ([1, 2, 9].take i)).length < 900 := by have h := noteL_len (([1, 2, 9] : List Int).take i); rw [List.length_take] at h; omega
      have HN := Lib.hid (note_c S w.heap.size _ n i wr hP (by omega) hll)
      have HD := Lib.hid (And.intro hB (And.intro hb (And.intro hS hn)))
      clear hB hb hP hS hn hll
      go_wp2_with fail
      refine HN.out.mono ?_
      rintro e w5 ⟨rfl, S2, g1, g2, g3⟩
      have HG := Lib.hid (And.intro g1 (And.intro g2 g3))
      clear g1 g2 g3
      go_wp2_with fail
      go_roundw
      case rel =>
        obtain ⟨hB, hb, hS, hn⟩ := HD.out
        obtain ⟨g1, g2, g3⟩ := HG.out
        have hlb := hB.lt
        refine ⟨i + 1, by omega, rfl, g2.blk hB (fun c => (hS _ c).2 rfl), hb.trans (g2.below (fun k hk => (hS k hk).1) hb.size), S2, ?_, fun k hk => ?_⟩
        · rw [List.take_add_one, hn]
          show PR w5 S2 w.heap.size (noteL (([1, 2, 9] : List Int).take i ++ [n])) _
          rw [noteL_snoc]
          exact g1
        · rcases g3 k hk with c | c
          · exact hS k c
          · have := hb.size; exact ⟨by omega, by omega⟩
      case measure => simp only [RowKit.intOf]; omega
    · obtain rfl : i = 3 := by omega
      have HD : Hid (Below w.heap.size w wr ∧ ∃ S, PR wr S w.heap.size [⟨1, 1⟩, ⟨2, 1⟩, ⟨9, 1⟩] ((3 : Nat) : Int)) := Lib.hid ⟨hb, S, by rw [← al_list]; exact hP⟩
      clear hB hb hP hS
      go_wp2_with fail
      refine (NaN_c wr).mono ?_
      rintro e w2 ⟨rfl, rfl⟩
      go_wp2_with fail
      obtain ⟨S3, P3⟩ := HD.out.2
      refine (at_c S3 w.heap.size _ 3 nanF wr P3 (by decide)).mono ?_
      rw [al_nan]
      rintro e w3 ⟨rfl, b3⟩
      have H3 := Lib.hid (And.intro (HD.out.1.trans (b3.mono HD.out.1.size)) (P3.below b3))
      clear b3 P3 HD
      go_wp2_with fail
      refine (mean_pos S3 w.heap.size _ 3 12 w3 H3.out.2 al_kb al_sum (by decide) (by decide)).mono ?_
      rw [al_mean]
      rintro e w4 ⟨rfl, b4⟩
      have H4 := Lib.hid (And.intro (H3.out.1.trans (b4.mono H3.out.1.size)) (H3.out.2.below b4))
      clear b4 H3
      go_wp2_with fail
      refine (at_c S3 w.heap.size _ 3 4602678819172646912 w4 H4.out.2 (by decide)).mono ?_
      rw [al_half]
      rintro e w5 ⟨rfl, b5⟩
      have H5 := Lib.hid (And.intro (H4.out.1.trans (b5.mono H4.out.1.size)) (H4.out.2.below b5))
      clear b5 H4
      go_wp2_with fail
      refine (most_c S3 w.heap.size _ _ w5 H5.out.2).mono ?_
      rw [al_most]
      rintro e w6 ⟨rfl, b6⟩
      have H6 := Lib.hid (H5.out.1.trans (b6.mono H5.out.1.size))
      clear b6 H5
      go_wp2_with fail
      go_ret
      exact ⟨rfl, H6.out⟩
end Go.Proofs.Ytajklhlgakpgiaa
