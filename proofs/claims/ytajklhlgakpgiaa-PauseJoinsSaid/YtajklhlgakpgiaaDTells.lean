/-
  PauseTells's walk: all that a record tells is what the model tells.
-/
import Derived.Test.YtajklhlgakpgiaaDTell
namespace Go.Proofs.Ytajklhlgakpgiaa
open Go.RowKit Go.Lib

theorem NumsAt.below {w w' : World} {p : Option Addr} {xs : List Int} (H : NumsAt w p xs) (hb : Below w.heap.size w w') : NumsAt w' p xs := fun i h => by
  obtain ⟨a, e, c⟩ := H i h
  exact ⟨a, e, (hb.cell (block_lt_of_cell c)).trans c⟩
theorem aboveP_nat {x : Int} {l : List Pr2} {n : Nat} (hp : Pos l) (hs : sumV l = n) : ∃ s : Nat, aboveP x l = s ∧ s ≤ n := by
  have := aboveP_in (n := x) (l := l) fun y hy => by have := hp y hy; omega
  exact ⟨(aboveP x l).toNat, by omega, by omega⟩
theorem MT.zero {w0 w : World} {r o : Nat} {l : List Pr2} (H : MT w0 w r o l 0) : l = [] := List.length_eq_zero_iff.1 (Nat.le_zero.1 H.len)
theorem MT.mean0 {w0 w : World} {r o : Nat} (H : MT w0 w r o [] 0) : Calls Try.prog 18 #[.pointer (some ⟨r, 0, none⟩)] w fun e w' => ∃ c, e = .returned (.float .f64 c) ∧ (∀ y, FloatKind.f64.format.order c y = none) ∧ Below w.heap.size w w' := by
  obtain ⟨S, _, h, _⟩ := H.md.ex
  exact mean_zero S r w h
theorem MT.share0 {w0 w : World} {r o : Nat} (H : MT w0 w r o [] 0) (x : Int) : Calls Try.prog 19 #[.pointer (some ⟨r, 0, none⟩), .int .i64 x] w fun e w' => ∃ c, e = .returned (.float .f64 c) ∧ (∀ y, FloatKind.f64.format.order c y = none) ∧ Below w.heap.size w w' := by
  obtain ⟨S, _, h, _⟩ := H.md.ex
  exact share_zero S r x w h
theorem nanF_order : FloatKind.f64.format.order nanF nanF = none := by decide
theorem NumsAt.same {w w' : World} {p : Option Addr} {xs : List Int} (H : NumsAt w p xs) (hb : Below w.heap.size w w') : NumsAt w' p xs := H.below hb

set_option maxHeartbeats 4000000 in
set_option maxRecDepth 100000 in
theorem tells_c (p : Option Addr) (n c : Nat) (xs : List Int) (q : Nat) (x : Int) (w : World) (hq : q < 2 ^ 64) (hx : -9223372036854775808 ≤ x ∧ x ≤ 9223372036854775807) (hn : xs.length = n) (hX : NumsAt w p xs) :
    Calls Try.prog 3 #[.slice p n c, .float .f64 q, .int .i64 x] w fun e w' => e = .returned (.bool true) ∧ Below w.heap.size w w' := by
  have HE := Lib.hid (And.intro hn (And.intro hX hx))
  clear hn hX hx
  by_cases hbig : n ≤ 100
  case neg =>
    have hbig1 : (100 : Int) < n := by omega
    go_enter Try.func3, Try.ntmps3
    go_wp2_with fail
    refine (alive_c w).mono ?_
    rintro e w1 ⟨rfl, b1⟩
    go_wp2_with fail
    go_ret
    exact ⟨rfl, b1⟩
  have hbig1 : ¬ (100 : Int) < n := by omega
  go_enter Try.func3, Try.ntmps3
  go_wp2_with fail
  refine (alive_c w).mono ?_
  rintro e w1 ⟨rfl, b1⟩
  have HB1 := Lib.hid b1
  clear b1
  go_wp2_with fail
  refine (made_t p n c xs w1 HE.out.1 (HE.out.2.1.below HB1.out) hbig).mono ?_
  rintro e w2 ⟨r, o, rfl, M⟩
  have HM := Lib.hid M
  have HB := Lib.hid (HB1.out.trans (M.md.bel.mono HB1.out.size))
  have hlt := Below.refl w2.heap.size w2
  clear M
  generalize noteL xs = l at HM
  have HL := Lib.hid hlt
  clear hlt
  go_wp2_with fail
  refine (NaN_c _).mono ?_
  rintro e w' ⟨rfl, rfl⟩
  go_wp2_with fail
  refine (NaN_c _).mono ?_
  rintro e w' ⟨rfl, rfl⟩
  by_cases hz : n = 0
  · subst hz
    have hl0 := HM.out.zero
    subst hl0
    go_wp2_with fail
    refine (NaN_c _).mono ?_
    rintro e w' ⟨rfl, rfl⟩
    have hatq := order_or q
    have hat := Lib.hid (show atF q [] 0 = nanF from if_pos (.inl rfl))
    rcases hatq with hqq | hqq
    · go_wp2_with fail
      refine HM.out.many_c.mono ?_
      rintro e w' ⟨rfl, rfl⟩
      go_wp2_with fail
      refine HM.out.sum_c.mono ?_
      rintro e wA ⟨rfl, bA⟩
      have HA := Lib.hid (And.intro (HM.out.below bA) (HL.out.trans (bA.mono HL.out.size)))
      clear bA HM HL
      go_wp2_with fail
      refine HA.out.1.sumr_c.mono ?_
      rintro e w' ⟨rfl, rfl⟩
      go_wp2_with fail
      refine HA.out.1.most_c.mono ?_
      rintro e wB ⟨rfl, bB⟩
      have HB_ := Lib.hid (And.intro (HA.out.1.below bB) (HA.out.2.trans (bB.mono HA.out.2.size)))
      clear bB HA
      go_wp2_with fail
      refine (HB_.out.1.above_c (by omega) x).mono ?_
      rintro e wC ⟨rfl, bC⟩
      have HC := Lib.hid (And.intro (HB_.out.1.below bC) (HB_.out.2.trans (bC.mono HB_.out.2.size)))
      clear bC HB_
      go_wp2_with fail
      refine (HC.out.1.abover_c x).mono ?_
      rintro e w' ⟨rfl, rfl⟩
      go_wp2_with fail
      refine HC.out.1.mean0.mono ?_
      rintro e wD ⟨m1, rfl, hm1, bD⟩
      have hm1 := Lib.hid hm1
      have HD := Lib.hid (And.intro (HC.out.1.below bD) (HC.out.2.trans (bD.mono HC.out.2.size)))
      clear bD HC
      go_wp2_with fail
      refine (same_any _ _ wD (.inr ⟨hm1.out _, nanF_order, hm1.out _⟩)).mono ?_
      rintro e w' ⟨rfl, rfl⟩
      go_wp2_with fail
      refine (HD.out.1.share0 x).mono ?_
      rintro e wE ⟨m2, rfl, hm2, bE⟩
      have hm2 := Lib.hid hm2
      have HE2 := Lib.hid (And.intro (HD.out.1.below bE) (HD.out.2.trans (bE.mono HD.out.2.size)))
      clear bE HD
      go_wp2_with fail
      refine (same_any _ _ wE (.inr ⟨hm2.out _, nanF_order, hm2.out _⟩)).mono ?_
      rintro e w' ⟨rfl, rfl⟩
      go_wp2_with fail
      refine (HE2.out.1.at_c q hq).mono ?_
      rintro e wF ⟨rfl, bF⟩
      have HF := Lib.hid (And.intro (HE2.out.1.below bF) (HE2.out.2.trans (bF.mono HE2.out.2.size)))
      clear bF HE2
      go_wp2_with fail
      refine (same_any _ _ wF (.inl hat.out)).mono ?_
      rintro e w' ⟨rfl, rfl⟩
      go_wp2_with fail
      refine HF.out.1.rows_c.mono ?_
      rintro e wG ⟨vG, rfl, oG, bG⟩
      obtain ⟨qG, cG, rfl, _⟩ := owns_row (owns0 oG)
      have HG := Lib.hid (And.intro (HF.out.1.below bG) (And.intro (HF.out.2.trans (bG.mono HF.out.2.size)) oG))
      clear bG oG HF
      go_wp2_with fail
      refine HG.out.1.rowsr_c.mono ?_
      rintro e wH ⟨vH, rfl, oH, bH⟩
      obtain ⟨qH, cH, rfl, _⟩ := owns_row (owns0 oH)
      have HH := Lib.hid (And.intro (HG.out.2.1.trans (bH.mono HG.out.2.1.size)) (And.intro (owns_old bH HG.out.2.2) (And.intro oH (Nat.le_trans HG.out.1.len hbig))))
      clear bH oH HG
      go_wp2_with fail
      refine (eqrows_c _ _ _ _ [] wH (Nat.le_trans HH.out.2.2.2 (by decide)) HH.out.2.1 HH.out.2.2.1).mono ?_
      rintro e wI ⟨rfl, bI⟩
      have HI := Lib.hid (HH.out.1.trans (bI.mono HH.out.1.size))
      clear bI HH
      go_wp2_with fail
      go_ret
      exact ⟨rfl, HB.out.trans (HI.out.mono HB.out.size)⟩
    · go_wp2_with fail
      refine HM.out.many_c.mono ?_
      rintro e w' ⟨rfl, rfl⟩
      go_wp2_with fail
      refine HM.out.sum_c.mono ?_
      rintro e wA ⟨rfl, bA⟩
      have HA := Lib.hid (And.intro (HM.out.below bA) (HL.out.trans (bA.mono HL.out.size)))
      clear bA HM HL
      go_wp2_with fail
      refine HA.out.1.sumr_c.mono ?_
      rintro e w' ⟨rfl, rfl⟩
      go_wp2_with fail
      refine HA.out.1.most_c.mono ?_
      rintro e wB ⟨rfl, bB⟩
      have HB_ := Lib.hid (And.intro (HA.out.1.below bB) (HA.out.2.trans (bB.mono HA.out.2.size)))
      clear bB HA
      go_wp2_with fail
      refine (HB_.out.1.above_c (by omega) x).mono ?_
      rintro e wC ⟨rfl, bC⟩
      have HC := Lib.hid (And.intro (HB_.out.1.below bC) (HB_.out.2.trans (bC.mono HB_.out.2.size)))
      clear bC HB_
      go_wp2_with fail
      refine (HC.out.1.abover_c x).mono ?_
      rintro e w' ⟨rfl, rfl⟩
      go_wp2_with fail
      refine HC.out.1.mean0.mono ?_
      rintro e wD ⟨m1, rfl, hm1, bD⟩
      have hm1 := Lib.hid hm1
      have HD := Lib.hid (And.intro (HC.out.1.below bD) (HC.out.2.trans (bD.mono HC.out.2.size)))
      clear bD HC
      go_wp2_with fail
      refine (same_any _ _ wD (.inr ⟨hm1.out _, nanF_order, hm1.out _⟩)).mono ?_
      rintro e w' ⟨rfl, rfl⟩
      go_wp2_with fail
      refine (HD.out.1.share0 x).mono ?_
      rintro e wE ⟨m2, rfl, hm2, bE⟩
      have hm2 := Lib.hid hm2
      have HE2 := Lib.hid (And.intro (HD.out.1.below bE) (HD.out.2.trans (bE.mono HD.out.2.size)))
      clear bE HD
      go_wp2_with fail
      refine (same_any _ _ wE (.inr ⟨hm2.out _, nanF_order, hm2.out _⟩)).mono ?_
      rintro e w' ⟨rfl, rfl⟩
      go_wp2_with fail
      refine (HE2.out.1.at_c q hq).mono ?_
      rintro e wF ⟨rfl, bF⟩
      have HF := Lib.hid (And.intro (HE2.out.1.below bF) (HE2.out.2.trans (bF.mono HE2.out.2.size)))
      clear bF HE2
      go_wp2_with fail
      refine (same_any _ _ wF (.inl hat.out)).mono ?_
      rintro e w' ⟨rfl, rfl⟩
      go_wp2_with fail
      refine HF.out.1.rows_c.mono ?_
      rintro e wG ⟨vG, rfl, oG, bG⟩
      obtain ⟨qG, cG, rfl, _⟩ := owns_row (owns0 oG)
      have HG := Lib.hid (And.intro (HF.out.1.below bG) (And.intro (HF.out.2.trans (bG.mono HF.out.2.size)) oG))
      clear bG oG HF
      go_wp2_with fail
      refine HG.out.1.rowsr_c.mono ?_
      rintro e wH ⟨vH, rfl, oH, bH⟩
      obtain ⟨qH, cH, rfl, _⟩ := owns_row (owns0 oH)
      have HH := Lib.hid (And.intro (HG.out.2.1.trans (bH.mono HG.out.2.1.size)) (And.intro (owns_old bH HG.out.2.2) (And.intro oH (Nat.le_trans HG.out.1.len hbig))))
      clear bH oH HG
      go_wp2_with fail
      refine (eqrows_c _ _ _ _ [] wH (Nat.le_trans HH.out.2.2.2 (by decide)) HH.out.2.1 HH.out.2.2.1).mono ?_
      rintro e wI ⟨rfl, bI⟩
      have HI := Lib.hid (HH.out.1.trans (bI.mono HH.out.1.size))
      clear bI HH
      go_wp2_with fail
      go_ret
      exact ⟨rfl, HB.out.trans (HI.out.mono HB.out.size)⟩
  have hz1 : 1 ≤ n := by omega
  have hz2 : (0 : Int) < n := by omega
  obtain ⟨sv, hsv, hsb⟩ : ∃ sv : Nat, sumFrom 0 l = sv ∧ sv < 2 ^ 53 := by
    have := sumFrom_in HM.out.kb (fun y hy => by have := HM.out.pos y hy; omega) 0 (Int.le_refl _) (by omega)
    exact ⟨(sumFrom 0 l).toNat, by omega, by omega⟩
  obtain ⟨av, hav, havn⟩ := aboveP_nat (x := x) HM.out.pos HM.out.sum
  have hd1 : ∀ W : World, (binOp .quo 23 (.float .f64 (floatOfInt .f64 (sv : Int))) (.float .f64 (floatOfInt .f64 (n : Int)))).run Try.prog W = .ok (.float .f64 (meanF sv n)) W := fun W => run_float_arith W .quo _ .f64 _ _ _ (by rw [int_float, int_float]; exact div_int sv n hsb (by omega) (by omega))
  have hd2 : ∀ W : World, (binOp .quo 23 (.float .f64 (floatOfInt .f64 (av : Int))) (.float .f64 (floatOfInt .f64 (n : Int)))).run Try.prog W = .ok (.float .f64 (meanF av n)) W := fun W => run_float_arith W .quo _ .f64 _ _ _ (by rw [int_float, int_float]; exact div_int av n (by omega) (by omega) (by omega))
  obtain ⟨al, cl, kc, kl⟩ := HM.out.cells hz1
  have hwn : IntKind.i64.wrap ((n : Int) - 1) = ((n - 1 : Nat) : Int) := by rw [IntKind.wrap_i64]; omega
  have hnn : ((n - 1 : Nat) : Int) < n := by omega
  have hsb := Lib.hid hsb
  have HS := Lib.hid (And.intro hsv (And.intro hav (And.intro kc kl)))
  have hsv := Lib.hid hsv
  have hav := Lib.hid hav
  clear kc kl havn
  go_upto_region 1 with fail
  refine region_all (C := Below w2.heap.size w2) (by kernel_rfl) (by kernel_rfl) (below_drew _) ?_
  have HC0 : Below w2.heap.size w2 w2 := Below.refl _ _
  open BigFrame in
  repeat (first | go_big_quiet_skip | (go_big_quiet_want; first | (apply quiet_one (hC := HC0); exact rfl; exact Nat.le_of_ble_eq_true rfl; (focus (intro w' hw'; have c1 := (hw'.cell (block_lt_of_cell HS.out.2.2.1)).trans HS.out.2.2.1; have c2 := (hw'.cell (block_lt_of_cell HS.out.2.2.2)).trans HS.out.2.2.2; go_big_quiet_op; with_reducible exact rfl)); go_big_quiet_on) | (go_big_quiet_op; apply Exists.intro; refine ⟨fun w' hw' => ?_, ?_⟩; (focus (have c1 := (hw'.cell (block_lt_of_cell HS.out.2.2.1)).trans HS.out.2.2.1; have c2 := (hw'.cell (block_lt_of_cell HS.out.2.2.2)).trans HS.out.2.2.2; first | ((have X := (HM.out.below hw').sumr_c; rw [HS.out.1] at X; with_reducible exact quiet_call_same hw' X)) | ((have X := (HM.out.below hw').abover_c x; rw [HS.out.2.1] at X; with_reducible exact quiet_call_same hw' X)))); go_big_quiet_on)))
  refine wpQuiet_nil ?_
  intro w3 hb3
  have HM := Lib.hid (HM.out.below hb3)
  have HL := Lib.hid (HL.out.trans (hb3.mono HL.out.size))
  clear hb3 HC0 hd1 hd2 hwn hnn
  have hsb := hsb.out
  go_wp2_with fail
  refine (NaN_c _).mono ?_
  rintro e w' ⟨rfl, rfl⟩
  rcases order_or q with hqq | hqq
  · have hNN : (Ieee.double.read q).isNaN = false := by rw [← nan_order, hqq]; rfl
    have hmx := fun W => max_run q hNN #[23, 23] 23 W
    have hmn := fun W => min_run (Ieee.maxF q) (Ieee.maxF_num q hNN) #[23, 23] 23 W
    have hcl := Lib.hid (Ieee.clampF_le q hq hNN)
    go_wp2_with fail
    refine (HM.out.atr_c (Ieee.clampF q) hcl.out hz1).mono ?_
    rintro e w' ⟨rfl, y, rfl, hy⟩
    have hat := Lib.hid (show atF q l n = floatOfInt .f64 y from (if_neg (fun c => c.elim hz (fun c => by rw [hNN] at c; cases c))).trans hy)
    clear hy hmx hmn
    go_wp2_with fail
    refine HM.out.many_c.mono ?_
    rintro e w' ⟨rfl, rfl⟩
    go_wp2_with fail
    refine HM.out.sum_c.mono ?_
    rintro e wA ⟨rfl, bA⟩
    have HA := Lib.hid (And.intro (HM.out.below bA) (HL.out.trans (bA.mono HL.out.size)))
    clear bA HM HL
    go_wp2_with fail
    refine HA.out.1.sumr_c.mono ?_
    rintro e w' ⟨rfl, rfl⟩
    go_wp2_with fail
    refine HA.out.1.most_c.mono ?_
    rintro e wB ⟨rfl, bB⟩
    have HB_ := Lib.hid (And.intro (HA.out.1.below bB) (HA.out.2.trans (bB.mono HA.out.2.size)))
    clear bB HA
    go_wp2_with fail
    refine (HB_.out.1.above_c (by omega) x).mono ?_
    rintro e wC ⟨rfl, bC⟩
    have HC := Lib.hid (And.intro (HB_.out.1.below bC) (HB_.out.2.trans (bC.mono HB_.out.2.size)))
    clear bC HB_
    go_wp2_with fail
    refine (HC.out.1.abover_c x).mono ?_
    rintro e w' ⟨rfl, rfl⟩
    go_wp2_with fail
    refine (HC.out.1.mean_c sv hsv.out hsb hz1).mono ?_
    rintro e wD ⟨rfl, bD⟩
    have HD := Lib.hid (And.intro (HC.out.1.below bD) (HC.out.2.trans (bD.mono HC.out.2.size)))
    clear bD HC
    go_wp2_with fail
    refine (same_any _ _ wD (.inl rfl)).mono ?_
    rintro e w' ⟨rfl, rfl⟩
    go_wp2_with fail
    refine (HD.out.1.share_c x av hav.out (by omega) hz1).mono ?_
    rintro e wE ⟨rfl, bE⟩
    have HE2 := Lib.hid (And.intro (HD.out.1.below bE) (HD.out.2.trans (bE.mono HD.out.2.size)))
    clear bE HD
    go_wp2_with fail
    refine (same_any _ _ wE (.inl rfl)).mono ?_
    rintro e w' ⟨rfl, rfl⟩
    go_wp2_with fail
    refine (HE2.out.1.at_c q hq).mono ?_
    rintro e wF ⟨rfl, bF⟩
    have HF := Lib.hid (And.intro (HE2.out.1.below bF) (HE2.out.2.trans (bF.mono HE2.out.2.size)))
    clear bF HE2
    go_wp2_with fail
    refine (same_any _ _ wF (.inl hat.out)).mono ?_
    rintro e w' ⟨rfl, rfl⟩
    go_wp2_with fail
    refine HF.out.1.rows_c.mono ?_
    rintro e wG ⟨vG, rfl, oG, bG⟩
    obtain ⟨qG, cG, rfl, _⟩ := owns_row (owns0 oG)
    have HG := Lib.hid (And.intro (HF.out.1.below bG) (And.intro (HF.out.2.trans (bG.mono HF.out.2.size)) oG))
    clear bG oG HF
    go_wp2_with fail
    refine HG.out.1.rowsr_c.mono ?_
    rintro e wH ⟨vH, rfl, oH, bH⟩
    obtain ⟨qH, cH, rfl, _⟩ := owns_row (owns0 oH)
    have HH := Lib.hid (And.intro (HG.out.2.1.trans (bH.mono HG.out.2.1.size)) (And.intro (owns_old bH HG.out.2.2) (And.intro oH (Nat.le_trans HG.out.1.len hbig))))
    clear bH oH HG
    go_wp2_with fail
    refine (eqrows_c _ _ _ _ l wH (Nat.le_trans HH.out.2.2.2 (by decide)) HH.out.2.1 HH.out.2.2.1).mono ?_
    rintro e wI ⟨rfl, bI⟩
    have HI := Lib.hid (HH.out.1.trans (bI.mono HH.out.1.size))
    clear bI HH
    go_wp2_with fail
    go_ret
    exact ⟨rfl, HB.out.trans (HI.out.mono HB.out.size)⟩
  · have hNN : (Ieee.double.read q).isNaN = true := by rw [← nan_order, hqq]; rfl
    have hat := Lib.hid (show atF q l n = nanF from if_pos (.inr hNN))
    go_wp2_with fail
    refine HM.out.many_c.mono ?_
    rintro e w' ⟨rfl, rfl⟩
    go_wp2_with fail
    refine HM.out.sum_c.mono ?_
    rintro e wA ⟨rfl, bA⟩
    have HA := Lib.hid (And.intro (HM.out.below bA) (HL.out.trans (bA.mono HL.out.size)))
    clear bA HM HL
    go_wp2_with fail
    refine HA.out.1.sumr_c.mono ?_
    rintro e w' ⟨rfl, rfl⟩
    go_wp2_with fail
    refine HA.out.1.most_c.mono ?_
    rintro e wB ⟨rfl, bB⟩
    have HB_ := Lib.hid (And.intro (HA.out.1.below bB) (HA.out.2.trans (bB.mono HA.out.2.size)))
    clear bB HA
    go_wp2_with fail
    refine (HB_.out.1.above_c (by omega) x).mono ?_
    rintro e wC ⟨rfl, bC⟩
    have HC := Lib.hid (And.intro (HB_.out.1.below bC) (HB_.out.2.trans (bC.mono HB_.out.2.size)))
    clear bC HB_
    go_wp2_with fail
    refine (HC.out.1.abover_c x).mono ?_
    rintro e w' ⟨rfl, rfl⟩
    go_wp2_with fail
    refine (HC.out.1.mean_c sv hsv.out hsb hz1).mono ?_
    rintro e wD ⟨rfl, bD⟩
    have HD := Lib.hid (And.intro (HC.out.1.below bD) (HC.out.2.trans (bD.mono HC.out.2.size)))
    clear bD HC
    go_wp2_with fail
    refine (same_any _ _ wD (.inl rfl)).mono ?_
    rintro e w' ⟨rfl, rfl⟩
    go_wp2_with fail
    refine (HD.out.1.share_c x av hav.out (by omega) hz1).mono ?_
    rintro e wE ⟨rfl, bE⟩
    have HE2 := Lib.hid (And.intro (HD.out.1.below bE) (HD.out.2.trans (bE.mono HD.out.2.size)))
    clear bE HD
    go_wp2_with fail
    refine (same_any _ _ wE (.inl rfl)).mono ?_
    rintro e w' ⟨rfl, rfl⟩
    go_wp2_with fail
    refine (HE2.out.1.at_c q hq).mono ?_
    rintro e wF ⟨rfl, bF⟩
    have HF := Lib.hid (And.intro (HE2.out.1.below bF) (HE2.out.2.trans (bF.mono HE2.out.2.size)))
    clear bF HE2
    go_wp2_with fail
    refine (same_any _ _ wF (.inl hat.out)).mono ?_
    rintro e w' ⟨rfl, rfl⟩
    go_wp2_with fail
    refine HF.out.1.rows_c.mono ?_
    rintro e wG ⟨vG, rfl, oG, bG⟩
    obtain ⟨qG, cG, rfl, _⟩ := owns_row (owns0 oG)
    have HG := Lib.hid (And.intro (HF.out.1.below bG) (And.intro (HF.out.2.trans (bG.mono HF.out.2.size)) oG))
    clear bG oG HF
    go_wp2_with fail
    refine HG.out.1.rowsr_c.mono ?_
    rintro e wH ⟨vH, rfl, oH, bH⟩
    obtain ⟨qH, cH, rfl, _⟩ := owns_row (owns0 oH)
    have HH := Lib.hid (And.intro (HG.out.2.1.trans (bH.mono HG.out.2.1.size)) (And.intro (owns_old bH HG.out.2.2) (And.intro oH (Nat.le_trans HG.out.1.len hbig))))
    clear bH oH HG
    go_wp2_with fail
    refine (eqrows_c _ _ _ _ l wH (Nat.le_trans HH.out.2.2.2 (by decide)) HH.out.2.1 HH.out.2.2.1).mono ?_
    rintro e wI ⟨rfl, bI⟩
    have HI := Lib.hid (HH.out.1.trans (bI.mono HH.out.1.size))
    clear bI HH
    go_wp2_with fail
    go_ret
    exact ⟨rfl, HB.out.trans (HI.out.mono HB.out.size)⟩
end Go.Proofs.Ytajklhlgakpgiaa
