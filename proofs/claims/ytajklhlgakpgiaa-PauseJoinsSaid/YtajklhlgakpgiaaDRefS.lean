/-
  The reference of the layer pause (amblerref34): Sum, Above; the program's Above and Share.
-/
import Derived.Test.YtajklhlgakpgiaaDExp
import Derived.Test.YtajklhlgakpgiaaDMean
namespace Go.Proofs.Ytajklhlgakpgiaa
open Go.RowKit Go.Lib

theorem sumR_in {L : List Int} (h : ∀ n ∈ L, 0 ≤ n ∧ n ≤ 1099511627776) : ∀ s, 0 ≤ s → s ≤ 1099511627776 → 0 ≤ sumR s L ∧ sumR s L ≤ 1099511627776 := by
  induction L with
  | nil => intro s h0 h1; exact ⟨h0, h1⟩
  | cons n L ih =>
    intro s h0 h1
    have hn := h n (List.mem_cons_self ..)
    rw [sumR]
    exact ih (fun x hx => h x (List.mem_cons_of_mem _ hx)) _ (by split <;> omega) (by split <;> omega)
theorem sumr_c (T : Nat → Prop) (r : Nat) (L : List Int) (w : World) (H : RN w T r L) (hL : ∀ n ∈ L, 0 ≤ n ∧ n ≤ 1099511627776) :
    Calls Try.prog 10 #[.pointer (some ⟨r, 0, none⟩)] w fun e w' => e = .returned (.int .i64 (sumR 0 L)) ∧ w = w' := by
  obtain ⟨v, h1, h2, _⟩ := H.ex
  have hsm := H.small
  obtain ⟨p, c, rfl, hn, hnc, _, hR⟩ := num_row h2
  have c0 := h1.cell 0
  have HR := Lib.hid (And.intro hR hL)
  clear h1 h2 H hR hL
  go_enter Try.func10, Try.ntmps10
  go_wp2_with fail
  go_loop [3, 11] (fun s3 s11 => ∃ (i : Nat) (s : Int), i ≤ L.length ∧ s11 = .int .i64 i ∧ s3 = .int .i64 s ∧ 0 ≤ s ∧ s ≤ 1099511627776 ∧ sumR s (L.drop i) = sumR 0 L) (fun _ s11 => L.length - (RowKit.intOf s11).toNat)
  case atStart => exact ⟨0, 0, Nat.zero_le _, rfl, rfl, Int.le_refl _, by omega, rfl⟩
  case round =>
    obtain ⟨i, s, hi, rfl, rfl, hs0, hs1, hsf⟩ := hrel
    by_cases hlt : i < L.length
    · have hlt1 : (i : Int) < L.length := by omega
      obtain ⟨a, rfl, k0⟩ := HR.out.1 i hlt
      have hx := HR.out.2 _ (List.getElem_mem hlt)
      have hdr : L.drop i = L[i] :: L.drop (i + 1) := (List.getElem_cons_drop hlt).symm
      rw [hdr, sumR] at hsf
      generalize L[i] = x at k0 hx hsf
      have hw3 : IntKind.i64.wrap ((i : Int) + 1) = (i : Int) + 1 := by rw [IntKind.wrap_i64]; omega
      have hwa : IntKind.i64.wrap (s + x) = s + x := by rw [IntKind.wrap_i64]; omega
      clear hdr
      by_cases hbig : 1099511627776 < s + x
      · rw [if_pos hbig] at hsf
        have HD := Lib.hid hsf
        clear hsf
        go_wp2_with fail
        go_round
        case rel => exact ⟨i + 1, 1099511627776, by omega, rfl, rfl, by omega, by omega, HD.out⟩
        case measure => simp only [RowKit.intOf]; omega
      · rw [if_neg hbig] at hsf
        have HD := Lib.hid hsf
        clear hsf
        go_wp2_with fail
        go_round
        case rel => exact ⟨i + 1, s + x, by omega, rfl, rfl, by omega, by omega, HD.out⟩
        case measure => simp only [RowKit.intOf]; omega
    · obtain rfl : i = L.length := by omega
      have hlt1 : ¬ (L.length : Int) < L.length := by omega
      rw [List.drop_length, sumR] at hsf
      have HD := Lib.hid hsf
      clear hsf
      go_wp2_with fail
      go_ret
      exact ⟨by rw [HD.out]; rfl, rfl⟩
theorem abover_c (T : Nat → Prop) (r : Nat) (L : List Int) (n : Int) (w : World) (H : RN w T r L) :
    Calls Try.prog 11 #[.pointer (some ⟨r, 0, none⟩), .int .i64 n] w fun e w' => e = .returned (.int .i64 (aboveR n L : Nat)) ∧ w = w' := by
  obtain ⟨v, h1, h2, _⟩ := H.ex
  have hsm := H.small
  obtain ⟨p, c, rfl, hn, hnc, _, hR⟩ := num_row h2
  have c0 := h1.cell 0
  have HR := Lib.hid hR
  clear h1 h2 H hR
  go_enter Try.func11, Try.ntmps11
  go_wp2_with fail
  go_loop [5, 13] (fun s5 s13 => ∃ (i k : Nat), i ≤ L.length ∧ s13 = .int .i64 i ∧ s5 = .int .i64 k ∧ k ≤ i ∧ k + aboveR n (L.drop i) = aboveR n L) (fun _ s13 => L.length - (RowKit.intOf s13).toNat)
  case atStart => exact ⟨0, 0, Nat.zero_le _, rfl, rfl, Nat.le_refl _, Nat.zero_add _⟩
  case round =>
    obtain ⟨i, k, hi, rfl, rfl, hk, hsf⟩ := hrel
    by_cases hlt : i < L.length
    · have hlt1 : (i : Int) < L.length := by omega
      obtain ⟨a, rfl, k0⟩ := HR.out i hlt
      have hdr : L.drop i = L[i] :: L.drop (i + 1) := (List.getElem_cons_drop hlt).symm
      rw [hdr, aboveR, List.countP_cons] at hsf
      generalize L[i] = x at k0 hsf
      have hw3 : IntKind.i64.wrap ((i : Int) + 1) = (i : Int) + 1 := by rw [IntKind.wrap_i64]; omega
      have hwa : IntKind.i64.wrap ((k : Int) + 1) = (k : Int) + 1 := by rw [IntKind.wrap_i64]; omega
      clear hdr
      by_cases hbig : n < x
      · rw [if_pos (decide_eq_true hbig)] at hsf
        have HD := Lib.hid hsf
        clear hsf
        go_wp2_with fail
        go_round
        case rel => exact ⟨i + 1, k + 1, by omega, rfl, rfl, by omega, by have := HD.out; unfold aboveR at this ⊢; omega⟩
        case measure => simp only [RowKit.intOf]; omega
      · rw [if_neg (by simpa using hbig)] at hsf
        have HD := Lib.hid hsf
        clear hsf
        go_wp2_with fail
        go_round
        case rel => exact ⟨i + 1, k, by omega, rfl, rfl, by omega, by have := HD.out; unfold aboveR at this ⊢; omega⟩
        case measure => simp only [RowKit.intOf]; omega
    · obtain rfl : i = L.length := by omega
      have hlt1 : ¬ (L.length : Int) < L.length := by omega
      rw [List.drop_length] at hsf
      have HD := Lib.hid (show k = aboveR n L from hsf)
      clear hsf
      go_wp2_with fail
      go_ret
      exact ⟨by rw [HD.out]; rfl, rfl⟩
theorem aboveP_in {n : Int} {l : List Pr2} (h : ∀ x ∈ l, 0 ≤ x.val) : 0 ≤ aboveP n l ∧ aboveP n l ≤ sumV l := by
  induction l with
  | nil => exact ⟨Int.le_refl _, Int.le_refl _⟩
  | cons x l ih =>
    have h0 := h x (List.mem_cons_self ..)
    have ih := ih fun y hy => h y (List.mem_cons_of_mem _ hy)
    have e : sumV (x :: l) = x.val + sumV l := rfl
    rw [e, aboveP]
    split <;> omega
set_option maxHeartbeats 1000000 in
set_option maxRecDepth 100000 in
theorem above_c (S : Nat → Prop) (r : Nat) (l : List Pr2) (many n : Int) (w : World) (H : PR w S r l many) (hs : sumV l ≤ 1000000) :
    Calls Try.prog 16 #[.pointer (some ⟨r, 0, none⟩), .int .i64 n] w fun e w' => e = .returned (.int .i64 (aboveP n l)) ∧ Below w.heap.size w w' := by
  obtain ⟨v, h1, h2, _⟩ := H.ex
  have hsm := H.small
  obtain ⟨p, c, rfl, hn, hnc, _, hR, _⟩ := owns_row h2
  have c0 := h1.cell 0
  have hval : ∀ x ∈ l, 0 ≤ x.val := fun x hx => (H.vals x hx).1
  have HR := Lib.hid (And.intro hR (And.intro hval hs))
  clear h1 h2 H hR hval hs
  go_enter Try.func16, Try.ntmps16
  go_wp2_with fail
  go_loopw [5, 13] (fun s5 s13 wr => ∃ (i : Nat) (k : Int), i ≤ l.length ∧ s13 = .int .i64 i ∧ s5 = .int .i64 k ∧ 0 ≤ k ∧ k + aboveP n (l.drop i) = aboveP n l ∧ Below w.heap.size w wr) (fun _ s13 _ => l.length - (RowKit.intOf s13).toNat)
  case atStart => exact ⟨0, 0, Nat.zero_le _, rfl, rfl, Int.le_refl _, Int.zero_add _, Below.refl _ _⟩
  case round =>
    obtain ⟨i, k, hi, rfl, rfl, hk, hsf, hb⟩ := hrel
    by_cases hlt : i < l.length
    · have hlt1 : (i : Int) < l.length := by omega
      obtain ⟨a, rfl, k0, k1⟩ := (HR.out.1.below hb) i hlt
      obtain ⟨x, hx⟩ : ∃ x, x = l[i] := ⟨_, rfl⟩
      rw [← hx] at k0 k1
      have hdr : l.drop i = x :: l.drop (i + 1) := by rw [hx]; exact (List.getElem_cons_drop hlt).symm
      rw [hdr, aboveP] at hsf
      have hin := aboveP_in (n := n) HR.out.2.1
      have hin2 := aboveP_in (n := n) (l := l.drop (i + 1)) fun y hy => HR.out.2.1 y (List.mem_of_mem_drop hy)
      have hxv := HR.out.2.1 x (by rw [hx]; exact List.getElem_mem hlt)
      have hsum := HR.out.2.2
      have hw3 : IntKind.i64.wrap ((i : Int) + 1) = (i : Int) + 1 := by rw [IntKind.wrap_i64]; omega
      have hA : Below wr.heap.size wr (wr.alloc (.cells #[.int .i64 x.key, .int .i64 x.val] 58)) := (Below.refl _ _).alloc (Nat.le_refl _) _
      have hb2 := hb.trans (hA.mono hb.size)
      by_cases hbig : n < x.key
      · rw [if_pos hbig] at hsf
        have hwa : IntKind.i64.wrap (k + x.val) = k + x.val := by rw [IntKind.wrap_i64]; omega
        have HD := Lib.hid (And.intro hsf (And.intro hb2 hxv))
        clear hsf hb2 hb hA hin hin2 hsum hdr hx hxv
        go_wp2_with fail
        go_roundw
        case rel => exact ⟨i + 1, k + x.val, by omega, rfl, rfl, by have := HD.out.2.2; omega, by have := HD.out.1; omega, HD.out.2.1⟩
        case measure => simp only [RowKit.intOf]; omega
      · rw [if_neg hbig] at hsf
        have HD := Lib.hid (And.intro hsf hb2)
        clear hsf hb2 hb hA hin hin2 hsum hdr hx hxv
        go_wp2_with fail
        go_roundw
        case rel => exact ⟨i + 1, k, by omega, rfl, rfl, hk, by have := HD.out.1; omega, HD.out.2⟩
        case measure => simp only [RowKit.intOf]; omega
    · obtain rfl : i = l.length := by omega
      have hlt1 : ¬ (l.length : Int) < l.length := by omega
      rw [List.drop_length] at hsf
      have HD := Lib.hid (And.intro (show k + 0 = aboveP n l from hsf) hb)
      clear hsf hb
      go_wp2_with fail
      go_ret
      exact ⟨by have := HD.out.1; rw [Int.add_zero] at this; rw [this]; rfl, HD.out.2⟩
set_option maxHeartbeats 1000000 in
set_option maxRecDepth 100000 in
theorem share_pos (S : Nat → Prop) (r : Nat) (l : List Pr2) (many s : Nat) (n : Int) (w : World) (H : PR w S r l many) (hs1 : sumV l ≤ 1000000) (hs : aboveP n l = s) (hs2 : s < 2 ^ 53) (hm : 0 < many) :
    Calls Try.prog 19 #[.pointer (some ⟨r, 0, none⟩), .int .i64 n] w fun e w' => e = .returned (.float .f64 (meanF s many)) ∧ Below w.heap.size w w' := by
  have hmost := H.most
  have hdiv : ∀ w : World, (binOp .quo 23 (.float .f64 (floatOfInt .f64 (s : Int))) (.float .f64 (floatOfInt .f64 (many : Int)))).run Try.prog w = .ok (.float .f64 (meanF s many)) w := fun w => run_float_arith w .quo _ .f64 _ _ _ (by rw [int_float, int_float]; exact div_int s many hs2 hm (by omega))
  have HS := Lib.hid (And.intro H (And.intro hs1 hs))
  clear H hs1 hs
  go_enter Try.func19, Try.ntmps19
  go_upto_region 1 with fail
  refine region_all (C := Below w.heap.size w) (by kernel_rfl) (by kernel_rfl) (below_drew _) ?_
  have HC0 : Below w.heap.size w w := Below.refl _ _
  open BigFrame in
  repeat (first | go_big_quiet_skip | (go_big_quiet_want; first | (apply quiet_one (hC := HC0); exact rfl; exact Nat.le_of_ble_eq_true rfl; (focus (intro w' hw'; have c1 := (HS.out.1.below hw').cell1; go_big_quiet_op; with_reducible exact rfl)); go_big_quiet_on) | (go_big_quiet_op; apply Exists.intro; refine ⟨fun w' hw' => ?_, ?_⟩; (focus (have c1 := (HS.out.1.below hw').cell1; first | ((have X := above_c S r l many n _ (HS.out.1.below hw') HS.out.2.1; rw [HS.out.2.2] at X; with_reducible exact quiet_call hw' X)))); go_big_quiet_on)))
  refine wpQuiet_nil ?_
  intro w2 hb2
  go_wp2_with fail
  go_ret
  exact ⟨rfl, hb2⟩
set_option maxHeartbeats 1000000 in
set_option maxRecDepth 100000 in
theorem share_zero (S : Nat → Prop) (r : Nat) (n : Int) (w : World) (H : PR w S r [] 0) :
    Calls Try.prog 19 #[.pointer (some ⟨r, 0, none⟩), .int .i64 n] w fun e w' => ∃ c, e = .returned (.float .f64 c) ∧ (∀ y, FloatKind.f64.format.order c y = none) ∧ Below w.heap.size w w' := by
  have HS := Lib.hid H
  clear H
  go_enter Try.func19, Try.ntmps19
  go_upto_region 1 with fail
  refine region_tail (C := Below w.heap.size w) 9 (by kernel_rfl) (by kernel_rfl) (below_drew _) ?_
  simp only [List.take_succ_cons, List.take_zero, List.drop_succ_cons, List.drop_zero]
  have HC0 : Below w.heap.size w w := Below.refl _ _
  open BigFrame in
  repeat (first | go_big_quiet_skip | (go_big_quiet_want; first | (apply quiet_one (hC := HC0); exact rfl; exact Nat.le_of_ble_eq_true rfl; (focus (intro w' hw'; have c1 := (HS.out.below hw').cell1; go_big_quiet_op; with_reducible exact rfl)); go_big_quiet_on) | (go_big_quiet_op; apply Exists.intro; refine ⟨fun w' hw' => ?_, ?_⟩; (focus (have c1 := (HS.out.below hw').cell1; first | ((have X := above_c S r [] 0 n _ (HS.out.below hw') (by decide); rw [show aboveP n [] = 0 from rfl] at X; with_reducible exact quiet_call hw' X)))); go_big_quiet_on)))
  refine wpQuiet_nil ?_
  intro w2 hb2
  obtain ⟨c, hc, hn⟩ := div_zero w2 23
  have HN := Lib.hid (And.intro hn hb2)
  clear hn hb2
  go_wp2_with fail
  go_ret
  exact ⟨c, rfl, HN.out.1, HN.out.2.drew⟩
end Go.Proofs.Ytajklhlgakpgiaa
