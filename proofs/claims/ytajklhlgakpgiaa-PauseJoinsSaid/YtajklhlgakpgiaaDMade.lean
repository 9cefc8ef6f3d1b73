/-
  A record and the reference's, side by side; made, by contract.
-/
import Derived.Test.YtajklhlgakpgiaaDRefR
namespace Go.Proofs.Ytajklhlgakpgiaa
open Go.RowKit Go.Lib

structure MD (w0 w : World) (r o : Nat) (l : List Pr2) (many : Int) (L : List Int) : Prop where
  ex : ∃ S T : Nat → Prop, PR w S r l many ∧ RN w T o L ∧ (∀ i, S i → ¬ T i) ∧ (∀ i, S i → w0.heap.size ≤ i) ∧ ∀ i, T i → w0.heap.size ≤ i
  bel : Below w0.heap.size w0 w
section
variable {w0 w w' : World} {r o : Nat} {l : List Pr2} {many : Int} {L : List Int}
theorem MD.below (H : MD w0 w r o l many L) (hb : Below w.heap.size w w') : MD w0 w' r o l many L := by
  obtain ⟨S, T, h1, h2, h3⟩ := H.ex
  exact ⟨⟨S, T, h1.below hb, h2.below hb, h3⟩, H.bel.trans (hb.mono H.bel.size)⟩
theorem MD.note (n : Int) (H : MD w0 w r o l many L) (hm : many < 1000000) (hl : l.length < 900) :
    Calls Try.prog 26 #[.pointer (some ⟨r, 0, none⟩), .int .i64 n] w fun e w' => e = .returned (.tuple #[]) ∧ MD w0 w' r o (addL (clampP n) 1 l) (many + 1) L := by
  obtain ⟨S, T, h1, h2, h3, h4, h5⟩ := H.ex
  have hs := H.bel.size
  refine (note_c S r l n many w h1 hm hl).mono ?_
  rintro e w' ⟨rfl, S', p, ch, nw⟩
  refine ⟨rfl, ⟨S', T, p, h2.chg ch (fun i hi hsi => h3 i hsi hi), fun i hi ht => ?_, fun i hi => ?_, h5⟩, H.bel.trans (ch.below h4 (by omega))⟩
  · rcases nw i hi with x | x
    · exact h3 i x ht
    · have := h2.lt i ht; omega
  · rcases nw i hi with x | x
    · exact h4 i x
    · omega
theorem MD.noter (n : Int) (H : MD w0 w r o l many L) (hl : L.length < 1000) :
    Calls Try.prog 28 #[.pointer (some ⟨o, 0, none⟩), .int .i64 n] w fun e w' => e = .returned (.tuple #[]) ∧ MD w0 w' r o l many (insR (clampP n) L) := by
  obtain ⟨S, T, h1, h2, h3, h4, h5⟩ := H.ex
  have hs := H.bel.size
  refine (noter_c T o L n w h2 hl).mono ?_
  rintro e w' ⟨rfl, T', p, ch, nw⟩
  have ho := h2.own
  have hch : Chg T w w' := ch.mono fun i _ hi => hi ▸ ho
  refine ⟨rfl, ⟨S, T', h1.chg hch (fun i hi hti => h3 i hi hti), p, fun i hi ht => ?_, h4, fun i hi => ?_⟩, H.bel.trans (hch.below h5 (by omega))⟩
  · rcases nw i ht with x | x
    · exact h3 i hi x
    · have := h1.lt i hi; omega
  · rcases nw i hi with x | x
    · exact h5 i x
    · omega
theorem MD.start (w : World) : MD w ((w.alloc (.cells #[.slice none 0 0, .int .i64 0] 48)).alloc (.cells #[.slice none 0 0] 33)) w.heap.size (w.heap.size + 1) [] 0 [] := by
  have b1 := Blk.new w 48 #[.slice none 0 0, .int .i64 0]
  have b2 := Blk.new (w.alloc (.cells #[.slice none 0 0, .int .i64 0] 48)) 33 #[.slice none 0 0]
  have e1 : (w.alloc (.cells #[.slice none 0 0, .int .i64 0] 48)).heap.size = w.heap.size + 1 := by simp
  rw [e1] at b2
  have hB : Below w.heap.size w ((w.alloc (.cells #[.slice none 0 0, .int .i64 0] 48)).alloc (.cells #[.slice none 0 0] 33)) := ((Below.refl _ _).alloc (Nat.le_refl _) _).alloc (by omega) _
  have b1' := b1.alloc (.cells #[.slice none 0 0] 33)
  refine ⟨⟨fun i => i = w.heap.size, fun i => i = w.heap.size + 1, ⟨⟨_, b1', World.ownsRow_nil _ _ _ _, fun k hk => (by cases hk)⟩, rfl, fun k hk => by subst hk; exact b1'.lt, List.Pairwise.nil, Nat.zero_le _, fun x hx => (by cases hx), by decide⟩, ⟨⟨_, b2, World.ownsRow_nil _ _ _ _, fun k hk => (by cases hk)⟩, rfl, fun k hk => by subst hk; exact b2.lt, Nat.zero_le _⟩, fun i h1 h2 => by simp only at h1 h2; omega, fun i h => by simp only at h; omega, fun i h => by simp only at h; omega⟩, hB⟩
end
set_option maxHeartbeats 1000000 in
set_option maxRecDepth 100000 in
theorem made_c (p : Option Addr) (n c : Nat) (xs : List Int) (w : World) (hn : xs.length = n) (hX : NumsAt w p xs) (h100 : n ≤ 100) :
    Calls Try.prog 8 #[.slice p n c] w fun e w' => e = .returned (.tuple #[.pointer (some ⟨w.heap.size, 0, none⟩), .pointer (some ⟨w.heap.size + 1, 0, none⟩)]) ∧ MD w w' w.heap.size (w.heap.size + 1) (noteL xs) n (refL xs) := by
  have HE := Lib.hid (And.intro hn hX)
  clear hn hX
  have HS := Lib.hid (MD.start w)
  go_enter Try.func8, Try.ntmps8
  go_wp2_with fail
  go_loopw [14] (fun s14 wr => ∃ i : Nat, i ≤ n ∧ s14 = .int .i64 i ∧ MD w wr w.heap.size (w.heap.size + 1) (noteL (xs.take i)) i (refL (xs.take i))) (fun s14 _ => n - (RowKit.intOf s14).toNat)
  case atStart => exact ⟨0, Nat.zero_le _, rfl, HS.out⟩
  case round =>
    obtain ⟨i, hi, rfl, hM⟩ := hrel
    have hlen := HE.out.1
    by_cases hlt : i < n
    · have hlt1 : (i : Int) < n := by omega
      obtain ⟨a, rfl, kw⟩ := HE.out.2 i (by omega)
      have hc := (hM.bel.cell (block_lt_of_cell kw)).trans kw
      clear kw
      have hw3 : IntKind.i64.wrap ((i : Int) + 1) = (i : Int) + 1 := by rw [IntKind.wrap_i64]; omega
      have htk : xs.take (i + 1) = xs.take i ++ [xs[i]] := by rw [List.take_add_one, List.getElem?_eq_getElem (by omega)]; rfl
      have hl1 : (noteL (xs.take i)).length < 900 := by have := noteL_len (xs.take i); rw [List.length_take] at this; omega
      have hl2 : (refL (xs.take i)).length < 1000 := by rw [refL_len, List.length_take]; omega
      generalize xs[i] = x at hc htk
      have HD := Lib.hid (And.intro hM (And.intro htk (And.intro hl1 hl2)))
      clear hM htk hl1 hl2 hlen
      go_wp2_with (go_at_call 26; refine (HD.out.1.note x (by omega) HD.out.2.2.1).mono ?_; rintro e w1 ⟨rfl, hM1⟩; replace HD := Lib.hid (And.intro hM1 HD.out.2); clear hM1)
      refine (HD.out.1.noter x HD.out.2.2.2).mono ?_
      rintro e w2 ⟨rfl, hM2⟩
      replace HD := Lib.hid (And.intro hM2 HD.out.2)
      clear hM2
      go_wp2_with fail
      go_roundw
      case rel =>
        refine ⟨i + 1, by omega, rfl, ?_⟩
        rw [HD.out.2.1, noteL_snoc, refL_snoc]
        exact HD.out.1
      case measure => simp only [RowKit.intOf]; omega
    · obtain rfl : i = n := by omega
      have hlt1 : ¬ (i : Int) < i := by omega
      have HD := Lib.hid (And.intro hM hlen)
      clear hM hlen
      go_wp2_with fail
      try simp only [Exit.inBlock, Exit.then]
      refine bodyPost_ret (results_tmp2 rfl _ _ _) rfl ?_
      have h9 := HD.out.1
      rw [List.take_of_length_le (by rw [HD.out.2]; exact Nat.le_refl _)] at h9
      exact ⟨rfl, h9⟩
end Go.Proofs.Ytajklhlgakpgiaa
