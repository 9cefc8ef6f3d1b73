/-
  PauseRises's walk: At never falls.
-/
import Derived.Test.YtajklhlgakpgiaaDRisesL
namespace Go.Proofs.Ytajklhlgakpgiaa
open Go.RowKit Go.Lib

def foundB (A : Nat) (l : List Pr2) (i : Nat) : Bool := (l.take i).any fun x => FloatKind.f64.format.order (floatOfInt .f64 x.key) A == some .eq
theorem foundB_succ {A : Nat} {l : List Pr2} {i : Nat} (h : i < l.length) : foundB A l (i + 1) = (foundB A l i || (FloatKind.f64.format.order (floatOfInt .f64 l[i].key) A == some .eq)) := by
  unfold foundB
  rw [take_snoc h, List.any_append, List.any_cons, List.any_nil, Bool.or_false]
theorem foundB_all {A : Nat} {l : List Pr2} (hK : KB l) (h : ∃ x ∈ l, floatOfInt .f64 x.key = A) : foundB A l l.length = true := by
  obtain ⟨x, hx, rfl⟩ := h
  unfold foundB
  rw [List.take_of_length_le (Nat.le_refl _)]
  refine List.any_eq_true.2 ⟨x, hx, ?_⟩
  rw [int_self _ (hK x hx).1 (hK x hx).2]
  rfl

set_option maxHeartbeats 4000000 in
set_option maxRecDepth 100000 in
theorem rises_c (p : Option Addr) (n c : Nat) (xs : List Int) (pp q : Nat) (w : World) (hpp : pp < 2 ^ 64) (hq : q < 2 ^ 64) (hn : xs.length = n) (hX : NumsAt w p xs) :
    Calls Try.prog 4 #[.slice p n c, .float .f64 pp, .float .f64 q] w fun e w' => e = .returned (.bool true) ∧ Below w.heap.size w w' := by
  have HE := Lib.hid (And.intro hn hX)
  clear hn hX
  by_cases hlow : n < 1
  · have hlow1 : (n : Int) < 1 := by omega
    go_enter Try.func4, Try.ntmps4
    go_wp2_with fail
    refine (alive_c w).mono ?_
    rintro e w1 ⟨rfl, b1⟩
    go_wp2_with fail
    go_ret
    exact ⟨rfl, b1⟩
  have hlow1 : ¬ (n : Int) < 1 := by omega
  by_cases hbig : n ≤ 100
  case neg =>
    have hbig1 : (100 : Int) < n := by omega
    go_enter Try.func4, Try.ntmps4
    go_wp2_with fail
    refine (alive_c w).mono ?_
    rintro e w1 ⟨rfl, b1⟩
    go_wp2_with fail
    go_ret
    exact ⟨rfl, b1⟩
  have hbig1 : ¬ (100 : Int) < n := by omega
  rcases order_or pp with hop | hop
  case inr =>
    have hop2 : (FloatKind.f64.format.order pp pp != some .eq) = true := by rw [hop]; rfl
    clear hop
    go_enter Try.func4, Try.ntmps4
    go_wp2_with fail
    refine (alive_c w).mono ?_
    rintro e w1 ⟨rfl, b1⟩
    go_wp2_with fail
    go_ret
    exact ⟨rfl, b1⟩
  rcases order_or q with hoq | hoq
  case inr =>
    have hoq2 : (FloatKind.f64.format.order q q != some .eq) = true := by rw [hoq]; rfl
    clear hoq
    go_enter Try.func4, Try.ntmps4
    go_wp2_with fail
    refine (alive_c w).mono ?_
    rintro e w1 ⟨rfl, b1⟩
    go_wp2_with fail
    go_ret
    exact ⟨rfl, b1⟩
  have hz1 : 1 ≤ n := by omega
  have hqN : Ieee.nanW q = false := by
    rw [← Ieee.isNaN_word q hq, ← nan_order, hoq]; rfl
  go_enter Try.func4, Try.ntmps4
  go_wp2_with fail
  refine (alive_c w).mono ?_
  rintro e w1 ⟨rfl, b1⟩
  have HB1 := Lib.hid b1
  clear b1
  go_wp2_with fail
  refine (made_t p n c xs w1 HE.out.1 (HE.out.2.below HB1.out) hbig).mono ?_
  rintro e w2 ⟨r, o, rfl, M⟩
  have HM := Lib.hid M
  have HB := Lib.hid (HB1.out.trans (M.md.bel.mono HB1.out.size))
  clear M
  generalize noteL xs = l at HM
  go_wp2_with fail
  refine HM.out.rows_c.mono ?_
  rintro e w3 ⟨v3, rfl, o3, b3⟩
  obtain ⟨q3, c3, rfl, _, _, _, hR3, _⟩ := owns_row (owns0 o3)
  obtain ⟨x0, l0, hl0⟩ : ∃ x0 l0, l = x0 :: l0 := by
    cases l with
    | nil => have := HM.out.sum; simp [sumV] at this; omega
    | cons x l0 => exact ⟨x, l0, rfl⟩
  have hlen0 : l.length ≠ 0 := by rw [hl0]; simp
  obtain ⟨a3, rfl, k30, k31⟩ := hR3 0 (by omega)
  have hk0 : l[0]'(by omega) = x0 := by simp [hl0]
  rw [hk0] at k30 k31
  have k30 : w3.cell? a3 = some (.int .i64 x0.key) := k30
  have HM3 := Lib.hid (HM.out.below b3)
  have HF := Lib.hid (And.intro hpp (And.intro hq (And.intro hqN (And.intro hl0 (And.intro hlow hbig)))))
  have HK := Lib.hid (And.intro hR3 (And.intro k30 k31))
  have HL := Lib.hid b3
  have hlen1 : ((l.length : Int) == 0) = false := by rw [beq_eq_false_iff_ne]; omega
  have hlen2 : ¬ (l.length : Int) = 0 := by omega
  have hlen3 : (0 : Int) < (l.length : Int) := by omega
  have hlen4 : l.length ≤ 100 := Nat.le_trans HM3.out.len hbig
  clear b3 hR3 k30 k31 hl0 HM hk0 hpp hq hqN hlow hlow1 o3
  have hat : ∀ (z : Nat), z < 2 ^ 64 → ∀ W, Below w3.heap.size w3 W → Calls Try.prog 20 #[.pointer (some ⟨r, 0, none⟩), .float .f64 z] W fun e w' => e = .returned (.float .f64 (atF z l n)) ∧ Below W.heap.size W w' := fun z hz W hW => (HM3.out.below hW).at_c z hz
  have hlow : ∀ z, z < 2 ^ 64 → Ieee.nanW z = false → Ieee.clampF z = 0 → atF z l n = floatOfInt .f64 x0.key := fun z h1 h2 h3 => by
    have hp := HM3.out.pos
    rw [HF.out.2.2.2.1] at hp ⊢
    exact atF_low hp hz1 (by omega) h1 h2 h3
  have hhigh : ∀ z, z < 2 ^ 64 → Ieee.nanW z = false → Ieee.clampF z = 4607182418800017408 → atF z l n = floatOfInt .f64 (mostP l) := fun z h1 h2 h3 =>
    atF_high HM3.out.pos (fun e => hlen0 (by rw [e]; rfl)) hz1 (by omega) HM3.out.elen h1 h2 h3
  have hP := Lib.hid (hat pp HF.out.1)
  have hQ := Lib.hid (hat q HF.out.2.1)
  have h0 := Lib.hid (hat 0 (by decide))
  have h1 := Lib.hid (hat 4607182418800017408 (by decide))
  have hz := Lib.hid (hat 9223372036854775808 (by decide))
  have hi := Lib.hid (hat 9218868437227405312 (by decide))
  have hni := Lib.hid (hat 18442240474082181120 (by decide))
  rw [hlow 0 (by decide) (by decide) clamp_zero] at h0
  rw [hhigh 4607182418800017408 (by decide) (by decide) clamp_one] at h1
  rw [hlow 9223372036854775808 (by decide) (by decide) clamp_nzero] at hz
  rw [hhigh 9218868437227405312 (by decide) (by decide) clamp_inf] at hi
  rw [hlow 18442240474082181120 (by decide) (by decide) clamp_ninf] at hni
  have hmost := Lib.hid (fun W (hW : Below w3.heap.size w3 W) => (HM3.out.below hW).most_c)
  have hcs := Lib.hid (fun W (_ : Below w3.heap.size w3 W) => copysign_c W)
  have hin := Lib.hid (fun W (_ : Below w3.heap.size w3 W) => inf_c W)
  have hnin := Lib.hid (fun W (_ : Below w3.heap.size w3 W) => ninf_c W)
  have hA0 : FloatKind.f64.format.order (floatOfInt .f64 x0.key) (floatOfInt .f64 x0.key) = some .eq := by
    have := HM3.out.kb x0 (by rw [HF.out.2.2.2.1]; exact List.mem_cons_self ..)
    exact int_self _ this.1 this.2
  have hA1 : FloatKind.f64.format.order (floatOfInt .f64 (mostP l)) (floatOfInt .f64 (mostP l)) = some .eq := by
    have : 0 ≤ mostP l ∧ mostP l ≤ 1099511627776 := by
      unfold mostP
      split
      · rename_i y hy; exact HM3.out.kb y (List.mem_of_getLast? hy)
      · omega
    exact int_self _ this.1 this.2
  clear hat hlow hhigh
  by_cases hpq : FloatKind.f64.format.order pp q = some .lt
  · have hpq2 : (FloatKind.f64.format.order pp q == some .lt) = true := by rw [hpq]; rfl
    have hgt := atF_mono HM3.out.sort HM3.out.pos HM3.out.kb HM3.out.elen hz1 (by omega) HF.out.1 HF.out.2.1 hpq
    clear hpq
    go_upto_region 7 with fail
    refine region_all (C := Below w3.heap.size w3) (by kernel_rfl) (by kernel_rfl) (below_drew _) ?_
    have HC0 : Below w3.heap.size w3 w3 := Below.refl _ _
    open BigFrame in
    repeat (first | go_big_quiet_skip | (go_big_quiet_want; first | (apply quiet_one (hC := HC0); exact rfl; exact Nat.le_of_ble_eq_true rfl; (focus (intro w' hw'; have k0 := (hw'.cell (block_lt_of_cell HK.out.2.1)).trans HK.out.2.1; go_big_quiet_op; with_reducible exact rfl)); go_big_quiet_on) | (go_big_quiet_op; apply Exists.intro; refine ⟨fun w' hw' => ?_, ?_⟩; (focus (have k0 := (hw'.cell (block_lt_of_cell HK.out.2.1)).trans HK.out.2.1; first | ((have X := hP.out _ hw'; with_reducible exact quiet_call hw' X)) | ((have X := hQ.out _ hw'; with_reducible exact quiet_call hw' X)) | ((have X := h0.out _ hw'; with_reducible exact quiet_call hw' X)) | ((have X := h1.out _ hw'; with_reducible exact quiet_call hw' X)) | ((have X := hz.out _ hw'; with_reducible exact quiet_call hw' X)) | ((have X := hi.out _ hw'; with_reducible exact quiet_call hw' X)) | ((have X := hni.out _ hw'; with_reducible exact quiet_call hw' X)) | ((have X := hmost.out _ hw'; with_reducible exact quiet_call hw' X)) | ((have X := hcs.out _ hw'; with_reducible exact quiet_call_same hw' X)) | ((have X := hin.out _ hw'; with_reducible exact quiet_call_same hw' X)) | ((have X := hnin.out _ hw'; with_reducible exact quiet_call_same hw' X)))); go_big_quiet_on)))
    refine wpQuiet_nil ?_
    intro w4 hb4
    have HM4 := Lib.hid (HM3.out.below hb4)
    have HL4 := Lib.hid hb4
    clear hb4 hP h0 h1 hz hi hni hmost hcs hin hnin hA0 hA1 HC0 hpq2 hgt
    go_wp2_with fail
    go_loopw [10, 11, 102] (fun s10 s11 s102 wr => ∃ i : Nat, i ≤ l.length ∧ s102 = .int .i64 i ∧ s10 = .bool (foundB (atF q l n) l i) ∧ s11 = .int .i64 (sumV (l.take i)) ∧ Below w3.heap.size w3 wr) (fun _ _ s102 _ => l.length - (RowKit.intOf s102).toNat)
    case atStart => exact ⟨0, Nat.zero_le _, rfl, rfl, rfl, HL4.out⟩
    case round =>
      obtain ⟨i, hi, rfl, h10, h11, hb⟩ := hrel
      by_cases hlt : i < l.length
      · have hlt1 : (i : Int) < l.length := by omega
        obtain ⟨a', ha', m0, m1⟩ := HK.out.1 i hlt
        injection ha' with ha'
        subst ha'
        have m0 := (hb.cell (block_lt_of_cell m0)).trans m0
        have m1 := (hb.cell (block_lt_of_cell m1)).trans m1
        have hfs := foundB_succ (A := atF q l n) hlt
        have hss : sumV (l.take (i + 1)) = sumV (l.take i) + l[i].val := by rw [take_snoc hlt, sumV_snoc]
        have hab := above_rows HM3.out.sort i hlt
        rw [HM3.out.sum, hss] at hab
        have hval := HM3.out.pos l[i] (List.getElem_mem hlt)
        have hst := sumV_take (k := l) (fun y hy => by have := HM3.out.pos y hy; omega) (i + 1)
        have hst0 := sumV_take (k := l) (fun y hy => by have := HM3.out.pos y hy; omega) i
        rw [HM3.out.sum, hss] at hst
        have hprev : 0 < i → ∃ y : Int, w3.cell? (a3.add ((i - 1) * 2)) = some (.int .i64 y) ∧ ¬ l[i].key ≤ y := fun h0 => by
          obtain ⟨a', ha', m0, _⟩ := HK.out.1 (i - 1) (by omega)
          injection ha' with ha'
          subst ha'
          refine ⟨_, m0, ?_⟩
          have := List.pairwise_iff_getElem.1 HM3.out.sort (i - 1) i (by omega) hlt (by omega)
          omega
        obtain ⟨x, hx⟩ : ∃ x, l[i] = x := ⟨_, rfl⟩
        rw [hx] at m0 m1 hfs hss hab hval hst hprev
        obtain ⟨S, hS⟩ : ∃ S, sumV (l.take i) = S := ⟨_, rfl⟩
        rw [hS] at h11 hss hab hst hst0
        have hw3 : IntKind.i64.wrap ((i : Int) + 1) = (i : Int) + 1 := by rw [IntKind.wrap_i64]; omega
        have hws : IntKind.i64.wrap (S + x.val) = S + x.val := by rw [IntKind.wrap_i64]; omega
        have hwd : IntKind.i64.wrap ((n : Int) - (S + x.val)) = (n : Int) - (S + x.val) := by rw [IntKind.wrap_i64]; omega
        have hA : Below wr.heap.size wr (wr.alloc (.cells #[.int .i64 x.key, .int .i64 x.val] 42)) := (Below.refl _ _).alloc (Nat.le_refl _) _
        have HX := Lib.hid (And.intro hab (And.intro (hb.trans (hA.mono hb.size)) (And.intro (Blk.new wr 42 #[.int .i64 x.key, .int .i64 x.val]) hx)))
        have HY := Lib.hid (And.intro hfs hss)
        clear hb hfs hss hab hval hst hst0 hA hS hx
        obtain ⟨fb, hfb⟩ : ∃ fb, foundB (atF q l n) l i = fb := ⟨_, rfl⟩
        rw [hfb] at h10
        subst h10 h11
        by_cases hi0 : 0 < i
        · have hi1 : (0 : Int) < (i : Int) := by omega
          obtain ⟨y, hy1, hy2⟩ := hprev hi0
          have HP := Lib.hid hy1
          have hwi : IntKind.i64.wrap ((i : Int) - 1) = ((i - 1 : Nat) : Int) := by rw [IntKind.wrap_i64]; omega
          have hil : ((i - 1 : Nat) : Int) < l.length := by omega
          clear hprev hy1
          cases fb with
          | true =>
            go_upto_region 13 with fail
            generalize wr.alloc (.cells #[.int .i64 x.key, .int .i64 x.val] 42) = wA at HX ⊢
            refine region_all (C := Below wA.heap.size wA) (by kernel_rfl) (by kernel_rfl) (below_drew _) ?_
            have HC0 : Below wA.heap.size wA wA := Below.refl _ _
            open BigFrame in
            repeat (first | go_big_quiet_skip | (go_big_quiet_want; first | (apply quiet_one (hC := HC0); exact rfl; exact Nat.le_of_ble_eq_true rfl; (focus (intro w' hw'; have k0 := (HX.out.2.2.1.below hw').cell 0; go_big_quiet_op; with_reducible exact rfl)); go_big_quiet_on) | (go_big_quiet_op; apply Exists.intro; refine ⟨fun w' hw' => ?_, ?_⟩; (focus (have k0 := (HX.out.2.2.1.below hw').cell 0; first | ((have X := hQ.out _ (HX.out.2.1.trans (hw'.mono HX.out.2.1.size)); with_reducible exact quiet_call hw' X)))); go_big_quiet_on)))
            refine wpQuiet_nil ?_
            intro w5 hb5
            have HX5 := Lib.hid (And.intro (HX.out.2.1.trans (hb5.mono HX.out.2.1.size)) (HX.out.2.2.1.below hb5))
            have k0 := HX5.out.2.cell 0
            have k1 := HX5.out.2.cell 1
            clear hb5 HC0
            go_upto_region 15 with fail
            refine region_all (C := Below w5.heap.size w5) (by kernel_rfl) (by kernel_rfl) (below_drew _) ?_
            have HC0 : Below w5.heap.size w5 w5 := Below.refl _ _
            clear k0 k1
            open BigFrame in
            repeat (first | go_big_quiet_skip | (go_big_quiet_want; first | (apply quiet_one (hC := HC0); exact rfl; exact Nat.le_of_ble_eq_true rfl; (focus (intro w' hw'; have k0 := (HX5.out.2.below hw').cell 0; have p0 := ((HX5.out.1.trans (hw'.mono HX5.out.1.size)).cell (block_lt_of_cell HP.out)).trans HP.out; have q0 := HX.out.1; go_big_quiet_op; with_reducible exact rfl)); go_big_quiet_on) | (go_big_quiet_op; apply Exists.intro; refine ⟨fun w' hw' => ?_, ?_⟩; (focus (have k0 := (HX5.out.2.below hw').cell 0; have p0 := ((HX5.out.1.trans (hw'.mono HX5.out.1.size)).cell (block_lt_of_cell HP.out)).trans HP.out; have q0 := HX.out.1; first | ((have X := (HM3.out.below (HX5.out.1.trans (hw'.mono HX5.out.1.size))).above_c (Nat.le_trans HF.out.2.2.2.2.2 (by decide)) x.key; rw [HX.out.1] at X; with_reducible exact quiet_call hw' X)))); go_big_quiet_on)))
            refine wpQuiet_nil ?_
            intro w6 hb6
            have HL6 := Lib.hid (HX5.out.1.trans (hb6.mono HX5.out.1.size))
            clear hb6 HC0 HX5
            go_wp2_with fail
            go_roundw
            case rel => exact ⟨i + 1, by omega, rfl, by rw [HY.out.1, hfb]; rfl, by rw [HY.out.2], HL6.out⟩
            case measure => simp only [RowKit.intOf]; omega
          | false =>
            go_upto_region 13 with fail
            generalize wr.alloc (.cells #[.int .i64 x.key, .int .i64 x.val] 42) = wA at HX ⊢
            refine region_all (C := Below wA.heap.size wA) (by kernel_rfl) (by kernel_rfl) (below_drew _) ?_
            have HC0 : Below wA.heap.size wA wA := Below.refl _ _
            open BigFrame in
            repeat (first | go_big_quiet_skip | (go_big_quiet_want; first | (apply quiet_one (hC := HC0); exact rfl; exact Nat.le_of_ble_eq_true rfl; (focus (intro w' hw'; have k0 := (HX.out.2.2.1.below hw').cell 0; go_big_quiet_op; with_reducible exact rfl)); go_big_quiet_on) | (go_big_quiet_op; apply Exists.intro; refine ⟨fun w' hw' => ?_, ?_⟩; (focus (have k0 := (HX.out.2.2.1.below hw').cell 0; first | ((have X := hQ.out _ (HX.out.2.1.trans (hw'.mono HX.out.2.1.size)); with_reducible exact quiet_call hw' X)))); go_big_quiet_on)))
            refine wpQuiet_nil ?_
            intro w5 hb5
            have HX5 := Lib.hid (And.intro (HX.out.2.1.trans (hb5.mono HX.out.2.1.size)) (HX.out.2.2.1.below hb5))
            have k0 := HX5.out.2.cell 0
            have k1 := HX5.out.2.cell 1
            clear hb5 HC0
            go_upto_region 15 with fail
            refine region_all (C := Below w5.heap.size w5) (by kernel_rfl) (by kernel_rfl) (below_drew _) ?_
            have HC0 : Below w5.heap.size w5 w5 := Below.refl _ _
            clear k0 k1
            open BigFrame in
            repeat (first | go_big_quiet_skip | (go_big_quiet_want; first | (apply quiet_one (hC := HC0); exact rfl; exact Nat.le_of_ble_eq_true rfl; (focus (intro w' hw'; have k0 := (HX5.out.2.below hw').cell 0; have p0 := ((HX5.out.1.trans (hw'.mono HX5.out.1.size)).cell (block_lt_of_cell HP.out)).trans HP.out; have q0 := HX.out.1; go_big_quiet_op; with_reducible exact rfl)); go_big_quiet_on) | (go_big_quiet_op; apply Exists.intro; refine ⟨fun w' hw' => ?_, ?_⟩; (focus (have k0 := (HX5.out.2.below hw').cell 0; have p0 := ((HX5.out.1.trans (hw'.mono HX5.out.1.size)).cell (block_lt_of_cell HP.out)).trans HP.out; have q0 := HX.out.1; first | ((have X := (HM3.out.below (HX5.out.1.trans (hw'.mono HX5.out.1.size))).above_c (Nat.le_trans HF.out.2.2.2.2.2 (by decide)) x.key; rw [HX.out.1] at X; with_reducible exact quiet_call hw' X)))); go_big_quiet_on)))
            refine wpQuiet_nil ?_
            intro w6 hb6
            have HL6 := Lib.hid (HX5.out.1.trans (hb6.mono HX5.out.1.size))
            clear hb6 HC0 HX5
            go_wp2_with fail
            go_roundw
            case rel => exact ⟨i + 1, by omega, rfl, by rw [HY.out.1, hfb]; rfl, by rw [HY.out.2], HL6.out⟩
            case measure => simp only [RowKit.intOf]; omega
        · have hi1 : ¬ (0 : Int) < (i : Int) := by omega
          clear hprev
          cases fb with
          | true =>
            go_upto_region 13 with fail
            generalize wr.alloc (.cells #[.int .i64 x.key, .int .i64 x.val] 42) = wA at HX ⊢
            refine region_all (C := Below wA.heap.size wA) (by kernel_rfl) (by kernel_rfl) (below_drew _) ?_
            have HC0 : Below wA.heap.size wA wA := Below.refl _ _
            open BigFrame in
            repeat (first | go_big_quiet_skip | (go_big_quiet_want; first | (apply quiet_one (hC := HC0); exact rfl; exact Nat.le_of_ble_eq_true rfl; (focus (intro w' hw'; have k0 := (HX.out.2.2.1.below hw').cell 0; go_big_quiet_op; with_reducible exact rfl)); go_big_quiet_on) | (go_big_quiet_op; apply Exists.intro; refine ⟨fun w' hw' => ?_, ?_⟩; (focus (have k0 := (HX.out.2.2.1.below hw').cell 0; first | ((have X := hQ.out _ (HX.out.2.1.trans (hw'.mono HX.out.2.1.size)); with_reducible exact quiet_call hw' X)))); go_big_quiet_on)))
            refine wpQuiet_nil ?_
            intro w5 hb5
            have HX5 := Lib.hid (And.intro (HX.out.2.1.trans (hb5.mono HX.out.2.1.size)) (HX.out.2.2.1.below hb5))
            have k0 := HX5.out.2.cell 0
            have k1 := HX5.out.2.cell 1
            clear hb5 HC0
            go_upto_region 15 with fail
            refine region_all (C := Below w5.heap.size w5) (by kernel_rfl) (by kernel_rfl) (below_drew _) ?_
            have HC0 : Below w5.heap.size w5 w5 := Below.refl _ _
            clear k0 k1
            open BigFrame in
            repeat (first | go_big_quiet_skip | (go_big_quiet_want; first | (apply quiet_one (hC := HC0); exact rfl; exact Nat.le_of_ble_eq_true rfl; (focus (intro w' hw'; have k0 := (HX5.out.2.below hw').cell 0; have q0 := HX.out.1; go_big_quiet_op; with_reducible exact rfl)); go_big_quiet_on) | (go_big_quiet_op; apply Exists.intro; refine ⟨fun w' hw' => ?_, ?_⟩; (focus (have k0 := (HX5.out.2.below hw').cell 0; have q0 := HX.out.1; first | ((have X := (HM3.out.below (HX5.out.1.trans (hw'.mono HX5.out.1.size))).above_c (Nat.le_trans HF.out.2.2.2.2.2 (by decide)) x.key; rw [HX.out.1] at X; with_reducible exact quiet_call hw' X)))); go_big_quiet_on)))
            refine wpQuiet_nil ?_
            intro w6 hb6
            have HL6 := Lib.hid (HX5.out.1.trans (hb6.mono HX5.out.1.size))
            clear hb6 HC0 HX5
            go_wp2_with fail
            go_roundw
            case rel => exact ⟨i + 1, by omega, rfl, by rw [HY.out.1, hfb]; rfl, by rw [HY.out.2], HL6.out⟩
            case measure => simp only [RowKit.intOf]; omega
          | false =>
            go_upto_region 13 with fail
            generalize wr.alloc (.cells #[.int .i64 x.key, .int .i64 x.val] 42) = wA at HX ⊢
            refine region_all (C := Below wA.heap.size wA) (by kernel_rfl) (by kernel_rfl) (below_drew _) ?_
            have HC0 : Below wA.heap.size wA wA := Below.refl _ _
            open BigFrame in
            repeat (first | go_big_quiet_skip | (go_big_quiet_want; first | (apply quiet_one (hC := HC0); exact rfl; exact Nat.le_of_ble_eq_true rfl; (focus (intro w' hw'; have k0 := (HX.out.2.2.1.below hw').cell 0; go_big_quiet_op; with_reducible exact rfl)); go_big_quiet_on) | (go_big_quiet_op; apply Exists.intro; refine ⟨fun w' hw' => ?_, ?_⟩; (focus (have k0 := (HX.out.2.2.1.below hw').cell 0; first | ((have X := hQ.out _ (HX.out.2.1.trans (hw'.mono HX.out.2.1.size)); with_reducible exact quiet_call hw' X)))); go_big_quiet_on)))
            refine wpQuiet_nil ?_
            intro w5 hb5
            have HX5 := Lib.hid (And.intro (HX.out.2.1.trans (hb5.mono HX.out.2.1.size)) (HX.out.2.2.1.below hb5))
            have k0 := HX5.out.2.cell 0
            have k1 := HX5.out.2.cell 1
            clear hb5 HC0
            go_upto_region 15 with fail
            refine region_all (C := Below w5.heap.size w5) (by kernel_rfl) (by kernel_rfl) (below_drew _) ?_
            have HC0 : Below w5.heap.size w5 w5 := Below.refl _ _
            clear k0 k1
            open BigFrame in
            repeat (first | go_big_quiet_skip | (go_big_quiet_want; first | (apply quiet_one (hC := HC0); exact rfl; exact Nat.le_of_ble_eq_true rfl; (focus (intro w' hw'; have k0 := (HX5.out.2.below hw').cell 0; have q0 := HX.out.1; go_big_quiet_op; with_reducible exact rfl)); go_big_quiet_on) | (go_big_quiet_op; apply Exists.intro; refine ⟨fun w' hw' => ?_, ?_⟩; (focus (have k0 := (HX5.out.2.below hw').cell 0; have q0 := HX.out.1; first | ((have X := (HM3.out.below (HX5.out.1.trans (hw'.mono HX5.out.1.size))).above_c (Nat.le_trans HF.out.2.2.2.2.2 (by decide)) x.key; rw [HX.out.1] at X; with_reducible exact quiet_call hw' X)))); go_big_quiet_on)))
            refine wpQuiet_nil ?_
            intro w6 hb6
            have HL6 := Lib.hid (HX5.out.1.trans (hb6.mono HX5.out.1.size))
            clear hb6 HC0 HX5
            go_wp2_with fail
            go_roundw
            case rel => exact ⟨i + 1, by omega, rfl, by rw [HY.out.1, hfb]; rfl, by rw [HY.out.2], HL6.out⟩
            case measure => simp only [RowKit.intOf]; omega
      · obtain rfl : i = l.length := by omega
        have hlt1 : ¬ (l.length : Int) < l.length := by omega
        rw [foundB_all HM3.out.kb (atF_one HM3.out.pos HM3.out.elen hz1 HF.out.2.1 HF.out.2.2.1)] at h10
        rw [List.take_of_length_le (Nat.le_refl _), HM3.out.sum] at h11
        subst h10 h11
        have HL6 := Lib.hid hb
        clear hb
        go_wp2_with fail
        go_ret
        exact ⟨rfl, HB.out.trans ((HL.out.trans (HL6.out.mono HL.out.size)).mono HB.out.size)⟩
  · have hpq2 : (FloatKind.f64.format.order pp q == some .lt) = false := by rw [beq_eq_false_iff_ne]; exact hpq
    clear hpq
    go_upto_region 7 with fail
    refine region_all (C := Below w3.heap.size w3) (by kernel_rfl) (by kernel_rfl) (below_drew _) ?_
    have HC0 : Below w3.heap.size w3 w3 := Below.refl _ _
    open BigFrame in
    repeat (first | go_big_quiet_skip | (go_big_quiet_want; first | (apply quiet_one (hC := HC0); exact rfl; exact Nat.le_of_ble_eq_true rfl; (focus (intro w' hw'; have k0 := (hw'.cell (block_lt_of_cell HK.out.2.1)).trans HK.out.2.1; go_big_quiet_op; with_reducible exact rfl)); go_big_quiet_on) | (go_big_quiet_op; apply Exists.intro; refine ⟨fun w' hw' => ?_, ?_⟩; (focus (have k0 := (hw'.cell (block_lt_of_cell HK.out.2.1)).trans HK.out.2.1; first | ((have X := hP.out _ hw'; with_reducible exact quiet_call hw' X)) | ((have X := hQ.out _ hw'; with_reducible exact quiet_call hw' X)) | ((have X := h0.out _ hw'; with_reducible exact quiet_call hw' X)) | ((have X := h1.out _ hw'; with_reducible exact quiet_call hw' X)) | ((have X := hz.out _ hw'; with_reducible exact quiet_call hw' X)) | ((have X := hi.out _ hw'; with_reducible exact quiet_call hw' X)) | ((have X := hni.out _ hw'; with_reducible exact quiet_call hw' X)) | ((have X := hmost.out _ hw'; with_reducible exact quiet_call hw' X)) | ((have X := hcs.out _ hw'; with_reducible exact quiet_call_same hw' X)) | ((have X := hin.out _ hw'; with_reducible exact quiet_call_same hw' X)) | ((have X := hnin.out _ hw'; with_reducible exact quiet_call_same hw' X)))); go_big_quiet_on)))
    refine wpQuiet_nil ?_
    intro w4 hb4
    have HM4 := Lib.hid (HM3.out.below hb4)
    have HL4 := Lib.hid hb4
    clear hb4 hP h0 h1 hz hi hni hmost hcs hin hnin hA0 hA1 HC0 hpq2
    go_wp2_with fail
    go_loopw [10, 11, 102] (fun s10 s11 s102 wr => ∃ i : Nat, i ≤ l.length ∧ s102 = .int .i64 i ∧ s10 = .bool (foundB (atF q l n) l i) ∧ s11 = .int .i64 (sumV (l.take i)) ∧ Below w3.heap.size w3 wr) (fun _ _ s102 _ => l.length - (RowKit.intOf s102).toNat)
    case atStart => exact ⟨0, Nat.zero_le _, rfl, rfl, rfl, HL4.out⟩
    case round =>
      obtain ⟨i, hi, rfl, h10, h11, hb⟩ := hrel
      by_cases hlt : i < l.length
      · have hlt1 : (i : Int) < l.length := by omega
        obtain ⟨a', ha', m0, m1⟩ := HK.out.1 i hlt
        injection ha' with ha'
        subst ha'
        have m0 := (hb.cell (block_lt_of_cell m0)).trans m0
        have m1 := (hb.cell (block_lt_of_cell m1)).trans m1
        have hfs := foundB_succ (A := atF q l n) hlt
        have hss : sumV (l.take (i + 1)) = sumV (l.take i) + l[i].val := by rw [take_snoc hlt, sumV_snoc]
        have hab := above_rows HM3.out.sort i hlt
        rw [HM3.out.sum, hss] at hab
        have hval := HM3.out.pos l[i] (List.getElem_mem hlt)
        have hst := sumV_take (k := l) (fun y hy => by have := HM3.out.pos y hy; omega) (i + 1)
        have hst0 := sumV_take (k := l) (fun y hy => by have := HM3.out.pos y hy; omega) i
        rw [HM3.out.sum, hss] at hst
        have hprev : 0 < i → ∃ y : Int, w3.cell? (a3.add ((i - 1) * 2)) = some (.int .i64 y) ∧ ¬ l[i].key ≤ y := fun h0 => by
          obtain ⟨a', ha', m0, _⟩ := HK.out.1 (i - 1) (by omega)
          injection ha' with ha'
          subst ha'
          refine ⟨_, m0, ?_⟩
          have := List.pairwise_iff_getElem.1 HM3.out.sort (i - 1) i (by omega) hlt (by omega)
          omega
        obtain ⟨x, hx⟩ : ∃ x, l[i] = x := ⟨_, rfl⟩
        rw [hx] at m0 m1 hfs hss hab hval hst hprev
        obtain ⟨S, hS⟩ : ∃ S, sumV (l.take i) = S := ⟨_, rfl⟩
        rw [hS] at h11 hss hab hst hst0
        have hw3 : IntKind.i64.wrap ((i : Int) + 1) = (i : Int) + 1 := by rw [IntKind.wrap_i64]; omega
        have hws : IntKind.i64.wrap (S + x.val) = S + x.val := by rw [IntKind.wrap_i64]; omega
        have hwd : IntKind.i64.wrap ((n : Int) - (S + x.val)) = (n : Int) - (S + x.val) := by rw [IntKind.wrap_i64]; omega
        have hA : Below wr.heap.size wr (wr.alloc (.cells #[.int .i64 x.key, .int .i64 x.val] 42)) := (Below.refl _ _).alloc (Nat.le_refl _) _
        have HX := Lib.hid (And.intro hab (And.intro (hb.trans (hA.mono hb.size)) (And.intro (Blk.new wr 42 #[.int .i64 x.key, .int .i64 x.val]) hx)))
        have HY := Lib.hid (And.intro hfs hss)
        clear hb hfs hss hab hval hst hst0 hA hS hx
        obtain ⟨fb, hfb⟩ : ∃ fb, foundB (atF q l n) l i = fb := ⟨_, rfl⟩
        rw [hfb] at h10
        subst h10 h11
        by_cases hi0 : 0 < i
        · have hi1 : (0 : Int) < (i : Int) := by omega
          obtain ⟨y, hy1, hy2⟩ := hprev hi0
          have HP := Lib.hid hy1
          have hwi : IntKind.i64.wrap ((i : Int) - 1) = ((i - 1 : Nat) : Int) := by rw [IntKind.wrap_i64]; omega
          have hil : ((i - 1 : Nat) : Int) < l.length := by omega
          clear hprev hy1
          cases fb with
          | true =>
            go_upto_region 13 with fail
            generalize wr.alloc (.cells #[.int .i64 x.key, .int .i64 x.val] 42) = wA at HX ⊢
            refine region_all (C := Below wA.heap.size wA) (by kernel_rfl) (by kernel_rfl) (below_drew _) ?_
            have HC0 : Below wA.heap.size wA wA := Below.refl _ _
            open BigFrame in
            repeat (first | go_big_quiet_skip | (go_big_quiet_want; first | (apply quiet_one (hC := HC0); exact rfl; exact Nat.le_of_ble_eq_true rfl; (focus (intro w' hw'; have k0 := (HX.out.2.2.1.below hw').cell 0; go_big_quiet_op; with_reducible exact rfl)); go_big_quiet_on) | (go_big_quiet_op; apply Exists.intro; refine ⟨fun w' hw' => ?_, ?_⟩; (focus (have k0 := (HX.out.2.2.1.below hw').cell 0; first | ((have X := hQ.out _ (HX.out.2.1.trans (hw'.mono HX.out.2.1.size)); with_reducible exact quiet_call hw' X)))); go_big_quiet_on)))
            refine wpQuiet_nil ?_
            intro w5 hb5
            have HX5 := Lib.hid (And.intro (HX.out.2.1.trans (hb5.mono HX.out.2.1.size)) (HX.out.2.2.1.below hb5))
            have k0 := HX5.out.2.cell 0
            have k1 := HX5.out.2.cell 1
            clear hb5 HC0
            go_upto_region 15 with fail
            refine region_all (C := Below w5.heap.size w5) (by kernel_rfl) (by kernel_rfl) (below_drew _) ?_
            have HC0 : Below w5.heap.size w5 w5 := Below.refl _ _
            clear k0 k1
            open BigFrame in
            repeat (first | go_big_quiet_skip | (go_big_quiet_want; first | (apply quiet_one (hC := HC0); exact rfl; exact Nat.le_of_ble_eq_true rfl; (focus (intro w' hw'; have k0 := (HX5.out.2.below hw').cell 0; have p0 := ((HX5.out.1.trans (hw'.mono HX5.out.1.size)).cell (block_lt_of_cell HP.out)).trans HP.out; have q0 := HX.out.1; go_big_quiet_op; with_reducible exact rfl)); go_big_quiet_on) | (go_big_quiet_op; apply Exists.intro; refine ⟨fun w' hw' => ?_, ?_⟩; (focus (have k0 := (HX5.out.2.below hw').cell 0; have p0 := ((HX5.out.1.trans (hw'.mono HX5.out.1.size)).cell (block_lt_of_cell HP.out)).trans HP.out; have q0 := HX.out.1; first | ((have X := (HM3.out.below (HX5.out.1.trans (hw'.mono HX5.out.1.size))).above_c (Nat.le_trans HF.out.2.2.2.2.2 (by decide)) x.key; rw [HX.out.1] at X; with_reducible exact quiet_call hw' X)))); go_big_quiet_on)))
            refine wpQuiet_nil ?_
            intro w6 hb6
            have HL6 := Lib.hid (HX5.out.1.trans (hb6.mono HX5.out.1.size))
            clear hb6 HC0 HX5
            go_wp2_with fail
            go_roundw
            case rel => exact ⟨i + 1, by omega, rfl, by rw [HY.out.1, hfb]; rfl, by rw [HY.out.2], HL6.out⟩
            case measure => simp only [RowKit.intOf]; omega
          | false =>
            go_upto_region 13 with fail
            generalize wr.alloc (.cells #[.int .i64 x.key, .int .i64 x.val] 42) = wA at HX ⊢
            refine region_all (C := Below wA.heap.size wA) (by kernel_rfl) (by kernel_rfl) (below_drew _) ?_
            have HC0 : Below wA.heap.size wA wA := Below.refl _ _
            open BigFrame in
            repeat (first | go_big_quiet_skip | (go_big_quiet_want; first | (apply quiet_one (hC := HC0); exact rfl; exact Nat.le_of_ble_eq_true rfl; (focus (intro w' hw'; have k0 := (HX.out.2.2.1.below hw').cell 0; go_big_quiet_op; with_reducible exact rfl)); go_big_quiet_on) | (go_big_quiet_op; apply Exists.intro; refine ⟨fun w' hw' => ?_, ?_⟩; (focus (have k0 := (HX.out.2.2.1.below hw').cell 0; first | ((have X := hQ.out _ (HX.out.2.1.trans (hw'.mono HX.out.2.1.size)); with_reducible exact quiet_call hw' X)))); go_big_quiet_on)))
            refine wpQuiet_nil ?_
            intro w5 hb5
            have HX5 := Lib.hid (And.intro (HX.out.2.1.trans (hb5.mono HX.out.2.1.size)) (HX.out.2.2.1.below hb5))
            have k0 := HX5.out.2.cell 0
            have k1 := HX5.out.2.cell 1
            clear hb5 HC0
            go_upto_region 15 with fail
            refine region_all (C := Below w5.heap.size w5) (by kernel_rfl) (by kernel_rfl) (below_drew _) ?_
            have HC0 : Below w5.heap.size w5 w5 := Below.refl _ _
            clear k0 k1
            open BigFrame in
            repeat (first | go_big_quiet_skip | (go_big_quiet_want; first | (apply quiet_one (hC := HC0); exact rfl; exact Nat.le_of_ble_eq_true rfl; (focus (intro w' hw'; have k0 := (HX5.out.2.below hw').cell 0; have p0 := ((HX5.out.1.trans (hw'.mono HX5.out.1.size)).cell (block_lt_of_cell HP.out)).trans HP.out; have q0 := HX.out.1; go_big_quiet_op; with_reducible exact rfl)); go_big_quiet_on) | (go_big_quiet_op; apply Exists.intro; refine ⟨fun w' hw' => ?_, ?_⟩; (focus (have k0 := (HX5.out.2.below hw').cell 0; have p0 := ((HX5.out.1.trans (hw'.mono HX5.out.1.size)).cell (block_lt_of_cell HP.out)).trans HP.out; have q0 := HX.out.1; first | ((have X := (HM3.out.below (HX5.out.1.trans (hw'.mono HX5.out.1.size))).above_c (Nat.le_trans HF.out.2.2.2.2.2 (by decide)) x.key; rw [HX.out.1] at X; with_reducible exact quiet_call hw' X)))); go_big_quiet_on)))
            refine wpQuiet_nil ?_
            intro w6 hb6
            have HL6 := Lib.hid (HX5.out.1.trans (hb6.mono HX5.out.1.size))
            clear hb6 HC0 HX5
            go_wp2_with fail
            go_roundw
            case rel => exact ⟨i + 1, by omega, rfl, by rw [HY.out.1, hfb]; rfl, by rw [HY.out.2], HL6.out⟩
            case measure => simp only [RowKit.intOf]; omega
        · have hi1 : ¬ (0 : Int) < (i : Int) := by omega
          clear hprev
          cases fb with
          | true =>
            go_upto_region 13 with fail
            generalize wr.alloc (.cells #[.int .i64 x.key, .int .i64 x.val] 42) = wA at HX ⊢
            refine region_all (C := Below wA.heap.size wA) (by kernel_rfl) (by kernel_rfl) (below_drew _) ?_
            have HC0 : Below wA.heap.size wA wA := Below.refl _ _
            open BigFrame in
            repeat (first | go_big_quiet_skip | (go_big_quiet_want; first | (apply quiet_one (hC := HC0); exact rfl; exact Nat.le_of_ble_eq_true rfl; (focus (intro w' hw'; have k0 := (HX.out.2.2.1.below hw').cell 0; go_big_quiet_op; with_reducible exact rfl)); go_big_quiet_on) | (go_big_quiet_op; apply Exists.intro; refine ⟨fun w' hw' => ?_, ?_⟩; (focus (have k0 := (HX.out.2.2.1.below hw').cell 0; first | ((have X := hQ.out _ (HX.out.2.1.trans (hw'.mono HX.out.2.1.size)); with_reducible exact quiet_call hw' X)))); go_big_quiet_on)))
            refine wpQuiet_nil ?_
            intro w5 hb5
            have HX5 := Lib.hid (And.intro (HX.out.2.1.trans (hb5.mono HX.out.2.1.size)) (HX.out.2.2.1.below hb5))
            have k0 := HX5.out.2.cell 0
            have k1 := HX5.out.2.cell 1
            clear hb5 HC0
            go_upto_region 15 with fail
            refine region_all (C := Below w5.heap.size w5) (by kernel_rfl) (by kernel_rfl) (below_drew _) ?_
            have HC0 : Below w5.heap.size w5 w5 := Below.refl _ _
            clear k0 k1
            open BigFrame in
            repeat (first | go_big_quiet_skip | (go_big_quiet_want; first | (apply quiet_one (hC := HC0); exact rfl; exact Nat.le_of_ble_eq_true rfl; (focus (intro w' hw'; have k0 := (HX5.out.2.below hw').cell 0; have q0 := HX.out.1; go_big_quiet_op; with_reducible exact rfl)); go_big_quiet_on) | (go_big_quiet_op; apply Exists.intro; refine ⟨fun w' hw' => ?_, ?_⟩; (focus (have k0 := (HX5.out.2.below hw').cell 0; have q0 := HX.out.1; first | ((have X := (HM3.out.below (HX5.out.1.trans (hw'.mono HX5.out.1.size))).above_c (Nat.le_trans HF.out.2.2.2.2.2 (by decide)) x.key; rw [HX.out.1] at X; with_reducible exact quiet_call hw' X)))); go_big_quiet_on)))
            refine wpQuiet_nil ?_
            intro w6 hb6
            have HL6 := Lib.hid (HX5.out.1.trans (hb6.mono HX5.out.1.size))
            clear hb6 HC0 HX5
            go_wp2_with fail
            go_roundw
            case rel => exact ⟨i + 1, by omega, rfl, by rw [HY.out.1, hfb]; rfl, by rw [HY.out.2], HL6.out⟩
            case measure => simp only [RowKit.intOf]; omega
          | false =>
            go_upto_region 13 with fail
            generalize wr.alloc (.cells #[.int .i64 x.key, .int .i64 x.val] 42) = wA at HX ⊢
            refine region_all (C := Below wA.heap.size wA) (by kernel_rfl) (by kernel_rfl) (below_drew _) ?_
            have HC0 : Below wA.heap.size wA wA := Below.refl _ _
            open BigFrame in
            repeat (first | go_big_quiet_skip | (go_big_quiet_want; first | (apply quiet_one (hC := HC0); exact rfl; exact Nat.le_of_ble_eq_true rfl; (focus (intro w' hw'; have k0 := (HX.out.2.2.1.below hw').cell 0; go_big_quiet_op; with_reducible exact rfl)); go_big_quiet_on) | (go_big_quiet_op; apply Exists.intro; refine ⟨fun w' hw' => ?_, ?_⟩; (focus (have k0 := (HX.out.2.2.1.below hw').cell 0; first | ((have X := hQ.out _ (HX.out.2.1.trans (hw'.mono HX.out.2.1.size)); with_reducible exact quiet_call hw' X)))); go_big_quiet_on)))
            refine wpQuiet_nil ?_
            intro w5 hb5
            have HX5 := Lib.hid (And.intro (HX.out.2.1.trans (hb5.mono HX.out.2.1.size)) (HX.out.2.2.1.below hb5))
            have k0 := HX5.out.2.cell 0
            have k1 := HX5.out.2.cell 1
            clear hb5 HC0
            go_upto_region 15 with fail
            refine region_all (C := Below w5.heap.size w5) (by kernel_rfl) (by kernel_rfl) (below_drew _) ?_
            have HC0 : Below w5.heap.size w5 w5 := Below.refl _ _
            clear k0 k1
            open BigFrame in
            repeat (first | go_big_quiet_skip | (go_big_quiet_want; first | (apply quiet_one (hC := HC0); exact rfl; exact Nat.le_of_ble_eq_true rfl; (focus (intro w' hw'; have k0 := (HX5.out.2.below hw').cell 0; have q0 := HX.out.1; go_big_quiet_op; with_reducible exact rfl)); go_big_quiet_on) | (go_big_quiet_op; apply Exists.intro; refine ⟨fun w' hw' => ?_, ?_⟩; (focus (have k0 := (HX5.out.2.below hw').cell 0; have q0 := HX.out.1; first | ((have X := (HM3.out.below (HX5.out.1.trans (hw'.mono HX5.out.1.size))).above_c (Nat.le_trans HF.out.2.2.2.2.2 (by decide)) x.key; rw [HX.out.1] at X; with_reducible exact quiet_call hw' X)))); go_big_quiet_on)))
            refine wpQuiet_nil ?_
            intro w6 hb6
            have HL6 := Lib.hid (HX5.out.1.trans (hb6.mono HX5.out.1.size))
            clear hb6 HC0 HX5
            go_wp2_with fail
            go_roundw
            case rel => exact ⟨i + 1, by omega, rfl, by rw [HY.out.1, hfb]; rfl, by rw [HY.out.2], HL6.out⟩
            case measure => simp only [RowKit.intOf]; omega
      · obtain rfl : i = l.length := by omega
        have hlt1 : ¬ (l.length : Int) < l.length := by omega
        rw [foundB_all HM3.out.kb (atF_one HM3.out.pos HM3.out.elen hz1 HF.out.2.1 HF.out.2.2.1)] at h10
        rw [List.take_of_length_le (Nat.le_refl _), HM3.out.sum] at h11
        subst h10 h11
        have HL6 := Lib.hid hb
        clear hb
        go_wp2_with fail
        go_ret
        exact ⟨rfl, HB.out.trans ((HL.out.trans (HL6.out.mono HL.out.size)).mono HB.out.size)⟩
end Go.Proofs.Ytajklhlgakpgiaa
