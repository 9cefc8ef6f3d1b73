/-
  The law PlainDiffs answers true.
-/
import Derived.Test.YtfnnfgiflhpefaaDoorDLaw
namespace Go.Proofs.YtfnnfgiflhpefaaDoor
open Go.RowKit Go.Lib

theorem old1 {w w' : World} {B n : Nat} {v : Value} {xs : List Int} (h : Below w.heap.size w w') (o : w.ownsRow B 33 1 v n (ints xs)) : w'.ownsRow B 33 1 v n (ints xs) := owns_old h o
theorem old2 {w w' : World} {B n : Nat} {v : Value} {xs : List Pr2} (h : Below w.heap.size w w') (o : w.ownsRow B 35 2 v n (flat2 xs)) : w'.ownsRow B 35 2 v n (flat2 xs) := owns_old h o
theorem Act3At.below {w w' : World} {p : Option Addr} {l : List Act3} (H : Act3At w p l) (hb : Below w.heap.size w w') : Act3At w' p l := fun i hi => by
  obtain ⟨a, e, h0, h1, h2⟩ := H i hi
  exact ⟨a, e, (hb.cell (block_lt_of_cell h0)).trans h0, (hb.cell (p := ⟨(a.add (i * 3)).block, (a.add (i * 3)).off + 1, none⟩) (block_lt_of_cell h1)).trans h1, (hb.cell (p := ⟨(a.add (i * 3)).block, (a.add (i * 3)).off + 2, none⟩) (block_lt_of_cell h2)).trans h2⟩
/-- Two functions and their references, which are only read. -/
structure Four (W w : World) (f v g u : Nat) (lf rf lg rg : List Pr2) : Prop where
  pf : ∃ S, PF w S f 1000 lf
  rv : ∃ S, RF w S v 1000 rf
  pg : ∃ S, PF w S g 1000 lg
  ru : ∃ S, RF w S u 1000 rg
  relf : Rel lf rf
  relg : Rel lg rg
  bel : Below W.heap.size W w
theorem Four.below {W w w' : World} {f v g u : Nat} {lf rf lg rg : List Pr2} (H : Four W w f v g u lf rf lg rg) (h : Below w.heap.size w w') : Four W w' f v g u lf rf lg rg := by
  obtain ⟨⟨S1, h1⟩, ⟨S2, h2⟩, ⟨S3, h3⟩, ⟨S4, h4⟩, h5, h6, h7⟩ := H
  exact ⟨⟨S1, h1.below h⟩, ⟨S2, h2.below h⟩, ⟨S3, h3.below h⟩, ⟨S4, h4.below h⟩, h5, h6, h7.trans (h.mono h7.size)⟩
theorem Four.sf {W w : World} {f v g u : Nat} {lf rf lg rg : List Pr2} (H : Four W w f v g u lf rf lg rg) : SortP lf := H.relf.sort
theorem Four.sg {W w : World} {f v g u : Nat} {lf rf lg rg : List Pr2} (H : Four W w f v g u lf rf lg rg) : SortP lg := H.relg.sort

theorem diffP_length (l k : List Pr2) (h1 : l.length ≤ 1000) (h2 : k.length ≤ 1000) : (diffP l k).length ≤ 2000 := by
  have key : ∀ l k : List Pr2, (diffP l k).length ≤ l.length + k.length := by
    intro l k
    induction l, k using diffP.induct with
    | case1 => simp [diffP]
    | case2 x l ih => simp [diffP] at ih ⊢; omega
    | case3 y k ih => simp [diffP] at ih ⊢; omega
    | case4 x l y k hlt ih => rw [diffP.eq_4, if_pos hlt]; simp at ih ⊢; omega
    | case5 x l y k hlt hgt ih => rw [diffP.eq_4, if_neg hlt, if_pos hgt]; simp at ih ⊢; omega
    | case6 x l y k hlt hgt hne ih => rw [diffP.eq_4, if_neg hlt, if_neg hgt, if_pos hne]; simp at ih ⊢; omega
    | case7 x l y k hlt hgt hne ih => rw [diffP.eq_4, if_neg hlt, if_neg hgt, if_neg hne]; simp at ih ⊢; omega
  have := key l k
  omega

set_option maxHeartbeats 4000000 in
set_option maxRecDepth 100000 in
theorem diffs_c (ea : Nat → Addr) (p q : Option Addr) (n m c d : Nat) (xa xb : List Act3) (W : World) (hE : ErrsAt W ea) (hn : xa.length = n) (hm : xb.length = m) (hA : Act3At W p xa) (hB : Act3At W q xb) (_ : ∀ y ∈ xa, y.ok) (_ : ∀ y ∈ xb, y.ok) :
    Calls Tryd.prog 5 #[.slice p n c, .slice q m d] W fun e w' => e = .returned (.bool true) ∧ Below W.heap.size W w' := by
  have HE := Lib.hid (And.intro hE (And.intro (And.intro hn hA) (And.intro hm hB)))
  clear hE hn hA hm hB
  have mixed : Tryd.prog.follows .mixedOrders = true := by kernel_rfl
  by_cases hbig : 60 < n
  · have hbig1 : decide ((60 : Int) < n) = true := decide_eq_true (by omega)
    have hbig2 : (60 : Int) < n := by omega
    go_enter Tryd.func5, Tryd.ntmps5
    go_wp2_with fail
    refine (alive_c ea W HE.out.1).mono ?_
    rintro e w1 ⟨rfl, b1⟩
    go_wp2_with fail
    go_ret
    exact ⟨rfl, b1⟩
  have hs1 : decide ((60 : Int) < n) = false := decide_eq_false (by omega)
  have hs2 : ¬ (60 : Int) < n := by omega
  by_cases hbig : 60 < m
  · have hbig1 : decide ((60 : Int) < m) = true := decide_eq_true (by omega)
    have hbig2 : (60 : Int) < m := by omega
    go_enter Tryd.func5, Tryd.ntmps5
    go_wp2_with fail
    refine (alive_c ea W HE.out.1).mono ?_
    rintro e w1 ⟨rfl, b1⟩
    go_wp2_with fail
    go_ret
    exact ⟨rfl, b1⟩
  have ht1 : decide ((60 : Int) < m) = false := decide_eq_false (by omega)
  have ht2 : ¬ (60 : Int) < m := by omega
  go_enter Tryd.func5, Tryd.ntmps5
  go_wp2_with fail
  refine (alive_c ea W HE.out.1).mono ?_
  rintro e w1 ⟨rfl, b1⟩
  have HB1 := Lib.hid b1
  clear b1
  go_wp2_with fail
  refine (made_c ea 1000 p n c xa w1 (HE.out.1.same HB1.out) HE.out.2.1.1 (HE.out.2.1.2.below HB1.out) (by omega)).mono ?_
  rintro e w2 ⟨f, v, rfl, h2⟩
  have HM2 := Lib.hid h2
  clear h2
  have hb2 : Below W.heap.size W w2 := by obtain ⟨_, _, h, _, _⟩ := HM2.out; exact HB1.out.trans (h.bel.mono HB1.out.size)
  have HB2 := Lib.hid hb2
  clear hb2
  go_wp2_with fail
  refine (made_c ea 1000 q m d xb w2 (HE.out.1.same HB2.out) HE.out.2.2.1 (HE.out.2.2.2.below HB2.out) (by omega)).mono ?_
  rintro e w3 ⟨g, u, rfl, h3⟩
  have hfour : ∃ lf rf lg rg, Four W w3 f v g u lf rf lg rg ∧ lf.length ≤ 60 ∧ lg.length ≤ 60 := by
    obtain ⟨lf, rf, a1, a2, a3⟩ := HM2.out
    obtain ⟨lg, rg, c1, c2, c3⟩ := h3
    obtain ⟨S, T, x1, x2, _⟩ := a1.ex
    obtain ⟨S', T', y1, y2, _⟩ := c1.ex
    exact ⟨lf, rf, lg, rg, ⟨⟨S, x1.below c1.bel⟩, ⟨T, x2.below c1.bel⟩, ⟨S', y1⟩, ⟨T', y2⟩, a2, c2, HB2.out.trans (c1.bel.mono HB2.out.size)⟩, by omega, by omega⟩
  obtain ⟨lf, rf, lg, rg, h4, hf60, hg60⟩ := hfour
  have H4 := Lib.hid h4
  clear h3 h4 HM2 HB2 HB1
  go_wp2_with fail
  obtain ⟨S5, p5⟩ := H4.out.pf
  refine (pairs_c S5 f 1000 lf w3 p5).mono ?_
  rintro e w5 ⟨x, rfl, ox, _, b5⟩
  obtain ⟨px, cx, rfl, _⟩ := owns_row ox
  have H5 := Lib.hid (And.intro (H4.out.below b5) ox)
  clear ox b5 H4 p5
  go_wp2_with fail
  obtain ⟨S6, p6⟩ := H5.out.1.pg
  refine (pairs_c S6 g 1000 lg w5 p6).mono ?_
  rintro e w6 ⟨y, rfl, oy, _, b6⟩
  obtain ⟨py, cy, rfl, _⟩ := owns_row oy
  have H6 := Lib.hid (And.intro (H5.out.1.below b6) (And.intro (old2 b6 H5.out.2) oy))
  clear oy b6 H5 p6
  go_wp2_with fail
  refine (pdiff_c (.slice px lf.length cx) (.slice py lg.length cy) lf.length lg.length lf lg w6 (by omega) (by omega) H6.out.2.1 H6.out.2.2).mono ?_
  rintro e w7 ⟨vl, rfl, ol, b7⟩
  obtain ⟨pl, cl, rfl, _⟩ := u64_row ol
  have H7 := Lib.hid (And.intro (H6.out.1.below b7) (And.intro (old2 b7 H6.out.2.1) (And.intro (old2 b7 H6.out.2.2) ol)))
  clear ol b7 H6
  go_wp2_with fail
  obtain ⟨S7, r7⟩ := H7.out.1.rv
  obtain ⟨S8, r8⟩ := H7.out.1.ru
  refine (diffr_c S7 S8 v u 1000 1000 rf rg w7 r7 r8 (by have := H7.out.1.relf.len; have := H7.out.1.relg.len; omega)).mono ?_
  rintro e w9 ⟨vw, s, rfl, hs, hq, ow, b9⟩
  have hks := diff_meet H7.out.1.relf H7.out.1.relg hs hq
  have hsl : s.length = (diffP lf lg).length := by rw [← hks, keysR, List.length_map]
  rw [hks, hsl] at ow
  obtain ⟨pw, cw, rfl, _⟩ := u64_row ow
  have hD0 : lf = lg → (diffP lf lg).length = 0 := fun e => by rw [e, diffP_self]; rfl
  have hD1 : (diffP lf lg).length = 0 → lf = lg := fun e => diff_none H7.out.1.sf H7.out.1.sg (List.length_eq_zero_iff.1 e)
  have hDn : (diffP lf lg).length ≤ 2000 := by
    exact diffP_length lf lg (by omega) (by omega)
  obtain ⟨N, hN⟩ : ∃ N, N = (diffP lf lg).length := ⟨_, rfl⟩
  have H9 := Lib.hid (show Four W w9 f v g u lf rf lg rg ∧ w9.ownsRow 0 35 2 (.slice px lf.length cx) lf.length (flat2 lf) ∧ w9.ownsRow 0 35 2 (.slice py lg.length cy) lg.length (flat2 lg) ∧ w9.ownsRow w6.heap.size 33 1 (.slice pl N cl) N (ints (diffP lf lg)) ∧ w9.ownsRow w7.heap.size 33 1 (.slice pw N cw) N (ints (diffP lf lg)) by
    rw [hN]
    exact ⟨H7.out.1.below b9, old2 b9 H7.out.2.1, old2 b9 H7.out.2.2.1, old1 b9 H7.out.2.2.2, ow⟩)
  rw [← hN] at hD0 hD1 hDn ⊢
  have HN := Lib.hid (And.intro hDn hN)
  clear ow b9 H7 hs hq hks hsl hDn hN r7 r8
  by_cases heq : lf = lg
  · have hb : decide (lf = lg) = true := decide_eq_true heq
    have hN0 := hD0 heq
    have hN1 : ((N : Int) == 0) = true := by rw [hN0]; rfl
    clear hD0 hD1 heq
    go_wp2_with fail
    refine (same_c (.slice px lf.length cx) (.slice py lg.length cy) lf.length lg.length lf lg w9 (by omega) H9.out.2.1 H9.out.2.2.1).mono ?_
    rw [hb]
    rintro e wA ⟨rfl, bA⟩
    have HA := Lib.hid (And.intro (H9.out.1.below bA) (And.intro (old2 bA H9.out.2.1) (And.intro (old2 bA H9.out.2.2.1) (And.intro (old1 bA H9.out.2.2.2.1) (old1 bA H9.out.2.2.2.2)))))
    clear bA H9
    go_wp2_with fail
    refine (pdiff_c (.slice px lf.length cx) (.slice px lf.length cx) lf.length lf.length lf lf wA (by omega) (by omega) HA.out.2.1 HA.out.2.1).mono ?_
    rintro e wB ⟨vz, rfl, oz, bB⟩
    rw [diffP_self] at oz
    simp only [List.length_nil] at oz
    obtain ⟨pz, cz, rfl, _⟩ := u64_row oz
    have HB := Lib.hid (And.intro (HA.out.1.below bB) (And.intro (old2 bB HA.out.2.1) (And.intro (old2 bB HA.out.2.2.1) (And.intro (old1 bB HA.out.2.2.2.1) (old1 bB HA.out.2.2.2.2)))))
    clear oz bB HA
    go_wp2_with fail
    go_loop [79] (fun s79 => ∃ i : Nat, i ≤ N ∧ s79 = .int .i64 i) (fun s79 => N - (RowKit.intOf s79).toNat)
    case atStart => exact ⟨0, Nat.zero_le _, rfl⟩
    case round =>
      obtain ⟨i, hi, rfl⟩ := hrel
      have hw3 : IntKind.i64.wrap ((i : Int) + 1) = (i : Int) + 1 := by have := HN.out; rw [IntKind.wrap_i64]; omega
      by_cases hlt : i < N
      · exfalso; omega
      · obtain rfl : i = N := by omega
        have hlt1 : ¬ (i : Int) < i := by omega
        go_wp2_with fail
        refine (pdiff_c (.slice py lg.length cy) (.slice px lf.length cx) lg.length lf.length lg lf wB (by omega) (by omega) HB.out.2.2.1 HB.out.2.1).mono ?_
        rintro e wC ⟨vb, rfl, ob, bC⟩
        rw [diff_back HB.out.1.sf HB.out.1.sg, ← HN.out.2] at ob
        obtain ⟨pb, cb, rfl, _⟩ := u64_row ob
        have HC := Lib.hid (HB.out.1.below bC).bel
        clear ob bC HB
        go_wp2_with fail
        go_ret
        exact ⟨rfl, HC.out⟩
  · have hb : decide (lf = lg) = false := decide_eq_false heq
    have hN0 : ¬ N = 0 := fun e => heq (hD1 e)
    have hN1 : ((N : Int) == 0) = false := by rw [beq_eq_false_iff_ne]; omega
    clear hD0 hD1 heq
    go_wp2_with fail
    refine (same_c (.slice px lf.length cx) (.slice py lg.length cy) lf.length lg.length lf lg w9 (by omega) H9.out.2.1 H9.out.2.2.1).mono ?_
    rw [hb]
    rintro e wA ⟨rfl, bA⟩
    have HA := Lib.hid (And.intro (H9.out.1.below bA) (And.intro (old2 bA H9.out.2.1) (And.intro (old2 bA H9.out.2.2.1) (And.intro (old1 bA H9.out.2.2.2.1) (old1 bA H9.out.2.2.2.2)))))
    clear bA H9
    go_wp2_with fail
    refine (pdiff_c (.slice px lf.length cx) (.slice px lf.length cx) lf.length lf.length lf lf wA (by omega) (by omega) HA.out.2.1 HA.out.2.1).mono ?_
    rintro e wB ⟨vz, rfl, oz, bB⟩
    rw [diffP_self] at oz
    simp only [List.length_nil] at oz
    obtain ⟨pz, cz, rfl, _⟩ := u64_row oz
    have HB := Lib.hid (And.intro (HA.out.1.below bB) (And.intro (old2 bB HA.out.2.1) (And.intro (old2 bB HA.out.2.2.1) (And.intro (old1 bB HA.out.2.2.2.1) (old1 bB HA.out.2.2.2.2)))))
    clear oz bB HA
    go_wp2_with fail
    go_loop [79] (fun s79 => ∃ i : Nat, i ≤ N ∧ s79 = .int .i64 i) (fun s79 => N - (RowKit.intOf s79).toNat)
    case atStart => exact ⟨0, Nat.zero_le _, rfl⟩
    case round =>
      obtain ⟨i, hi, rfl⟩ := hrel
      have hw3 : IntKind.i64.wrap ((i : Int) + 1) = (i : Int) + 1 := by have := HN.out; rw [IntKind.wrap_i64]; omega
      by_cases hlt : i < N
      · have hlt1 : (i : Int) < N := by omega
        obtain ⟨p1, c1, e1, hl1, _, _, hR1⟩ := u64_row HB.out.2.2.2.1
        obtain ⟨p2, c2, e2, hl2, _, _, hR2⟩ := u64_row HB.out.2.2.2.2
        injection e1 with e11 _ e13
        injection e2 with e21 _ e23
        subst e11 e13 e21 e23
        obtain ⟨a1, rfl, k1⟩ := hR1 i (by omega)
        obtain ⟨a2, rfl, k2⟩ := hR2 i (by omega)
        rw [Nat.mul_one] at k1 k2
        generalize (diffP lf lg)[i]'(by omega) = kx at k1 k2
        have hkk : (kx == kx) = true := beq_iff_eq.2 rfl
        clear hR1 hR2 hl1 hl2
        go_wp2_with fail
        go_round
        case rel => exact ⟨i + 1, by omega, rfl⟩
        case measure => simp only [RowKit.intOf]; omega
      · obtain rfl : i = N := by omega
        have hlt1 : ¬ (i : Int) < i := by omega
        go_wp2_with fail
        refine (pdiff_c (.slice py lg.length cy) (.slice px lf.length cx) lg.length lf.length lg lf wB (by omega) (by omega) HB.out.2.2.1 HB.out.2.1).mono ?_
        rintro e wC ⟨vb, rfl, ob, bC⟩
        rw [diff_back HB.out.1.sf HB.out.1.sg, ← HN.out.2] at ob
        obtain ⟨pb, cb, rfl, _⟩ := u64_row ob
        have HC := Lib.hid (HB.out.1.below bC).bel
        clear ob bC HB
        go_wp2_with fail
        go_ret
        exact ⟨rfl, HC.out⟩
end Go.Proofs.YtfnnfgiflhpefaaDoor
