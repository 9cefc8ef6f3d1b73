/-
  PauseJoins's walk.
-/
import Derived.Test.YtajklhlgakpgiaaDSmooth
import Derived.Deep.RegionHeld3
namespace Go.Proofs.Ytajklhlgakpgiaa
open Go.RowKit Go.Lib

theorem made_m (p : Option Addr) (n c : Nat) (xs : List Int) (w : World) (hn : xs.length = n) (hX : NumsAt w p xs) (h100 : n ≤ 100) :
    Calls Try.prog 8 #[.slice p n c] w fun e w' => ∃ r o, e = .returned (.tuple #[.pointer (some ⟨r, 0, none⟩), .pointer (some ⟨o, 0, none⟩)]) ∧ MD w w' r o (noteL xs) n (refL xs) :=
  (made_c p n c xs w hn hX h100).mono fun _ _ ⟨h1, h2⟩ => ⟨_, _, h1, h2⟩
inductive Cs (old now wt : Nat) : Prop
  | a (h : FloatKind.f64.format.order old old = none)
  | b (h : FloatKind.f64.format.order old old = some .eq) (hw : FloatKind.f64.format.order wt wt = none)
  | c (h : FloatKind.f64.format.order old old = some .eq) (hw : FloatKind.f64.format.order wt wt = some .eq) (h1 : FloatKind.f64.format.order wt 4607182418800017408 = some .gt)
  | d (h : FloatKind.f64.format.order old old = some .eq) (hw : FloatKind.f64.format.order wt wt = some .eq) (h1 : FloatKind.f64.format.order wt 4607182418800017408 = some .eq)
  | e (h : FloatKind.f64.format.order old old = some .eq) (hw : FloatKind.f64.format.order wt wt = some .eq) (h1 : FloatKind.f64.format.order wt 4607182418800017408 = some .lt) (hn : FloatKind.f64.format.order now now = none)
  | f (h : FloatKind.f64.format.order old old = some .eq) (hw : FloatKind.f64.format.order wt wt = some .eq) (h1 : FloatKind.f64.format.order wt 4607182418800017408 = some .lt) (hn : FloatKind.f64.format.order now now = some .eq) (h0 : FloatKind.f64.format.order wt 0 = some .lt)
  | g (h : FloatKind.f64.format.order old old = some .eq) (hw : FloatKind.f64.format.order wt wt = some .eq) (h1 : FloatKind.f64.format.order wt 4607182418800017408 = some .lt) (hn : FloatKind.f64.format.order now now = some .eq) (h0 : FloatKind.f64.format.order wt 0 = some .eq)
  | h (h : FloatKind.f64.format.order old old = some .eq) (hw : FloatKind.f64.format.order wt wt = some .eq) (h1 : FloatKind.f64.format.order wt 4607182418800017408 = some .lt) (hn : FloatKind.f64.format.order now now = some .eq) (h0 : FloatKind.f64.format.order wt 0 = some .gt)
theorem cs_of (old now wt : Nat) (hw64 : wt < 2 ^ 64) : Cs old now wt := by
  rcases order_or old with h | h
  case inr => exact .a h
  rcases order_or wt with hw | hw
  case inr => exact .b h hw
  have hN : Ieee.nanW wt = false := by
    rw [← Ieee.isNaN_word wt hw64, ← nan_order, hw]; rfl
  have key : ∀ z, z < 2 ^ 64 → Ieee.nanW z = false → FloatKind.f64.format.order wt z = some .lt ∨ FloatKind.f64.format.order wt z = some .eq ∨ FloatKind.f64.format.order wt z = some .gt := fun z hz hzn => by
    have : FloatKind.f64.format.order wt z = some (Ieee.cmp3 (Ieee.sg wt) (Ieee.sg z)) := by
      show Ieee.double.order wt z = _
      rw [Ieee.order_word wt z hw64 hz, hN, hzn]; rfl
    rw [this]
    cases Ieee.cmp3 (Ieee.sg wt) (Ieee.sg z) <;> simp
  rcases key 4607182418800017408 (by decide) (by decide) with h1 | h1 | h1
  · rcases order_or now with hn | hn
    · rcases key 0 (by decide) (by decide) with h0 | h0 | h0
      · exact .f h hw h1 hn h0
      · exact .g h hw h1 hn h0
      · exact .h h hw h1 hn h0
    · exact .e h hw h1 hn
  · exact .d h hw h1
  · exact .c h hw h1

set_option maxHeartbeats 4000000 in
set_option maxRecDepth 100000 in
theorem joins_c (pa : Option Addr) (na ca : Nat) (xs : List Int) (pb : Option Addr) (nb cb : Nat) (bs : List Int) (old now wt : Nat) (w : World) (hwt : wt < 2 ^ 64) (hna : xs.length = na) (hA : NumsAt w pa xs) (hnb : bs.length = nb) (hB : NumsAt w pb bs) :
    Calls Try.prog 6 #[.slice pa na ca, .slice pb nb cb, .agg #[.float .f64 old, .float .f64 now, .float .f64 wt]] w fun e w' => e = .returned (.bool true) ∧ Below w.heap.size w w' := by
  have HE := Lib.hid (And.intro hna (And.intro hA (And.intro hnb hB)))
  clear hna hA hnb hB
  by_cases hba : na ≤ 60
  case neg =>
    have hba1 : (60 : Int) < na := by omega
    go_enter Try.func6, Try.ntmps6
    go_wp2_with fail
    refine (alive_c _).mono ?_
    rintro e w1 ⟨rfl, b1⟩
    have bA : Below w.heap.size w (w.alloc (.cells #[.float .f64 old, .float .f64 now, .float .f64 wt] 52)) := (Below.refl _ _).alloc (Nat.le_refl _) _
    have bW : Below w.heap.size w w1 := bA.trans (b1.mono bA.size)
    have hF : Blk w1 w.heap.size 52 #[.float .f64 old, .float .f64 now, .float .f64 wt] := (Blk.new w 52 #[.float .f64 old, .float .f64 now, .float .f64 wt]).below b1
    clear b1 bA
    go_wp2_with fail
    go_ret
    exact ⟨rfl, bW⟩
  have hba1 : ¬ (60 : Int) < na := by omega
  by_cases hbb : nb ≤ 60
  case neg =>
    have hbb1 : (60 : Int) < nb := by omega
    go_enter Try.func6, Try.ntmps6
    go_wp2_with fail
    refine (alive_c _).mono ?_
    rintro e w1 ⟨rfl, b1⟩
    have bA : Below w.heap.size w (w.alloc (.cells #[.float .f64 old, .float .f64 now, .float .f64 wt] 52)) := (Below.refl _ _).alloc (Nat.le_refl _) _
    have bW : Below w.heap.size w w1 := bA.trans (b1.mono bA.size)
    have hF : Blk w1 w.heap.size 52 #[.float .f64 old, .float .f64 now, .float .f64 wt] := (Blk.new w 52 #[.float .f64 old, .float .f64 now, .float .f64 wt]).below b1
    clear b1 bA
    go_wp2_with fail
    go_ret
    exact ⟨rfl, bW⟩
  have hbb1 : ¬ (60 : Int) < nb := by omega
  go_enter Try.func6, Try.ntmps6
  go_wp2_with fail
  refine (alive_c _).mono ?_
  rintro e w1 ⟨rfl, b1⟩
  have bA : Below w.heap.size w (w.alloc (.cells #[.float .f64 old, .float .f64 now, .float .f64 wt] 52)) := (Below.refl _ _).alloc (Nat.le_refl _) _
  have bW : Below w.heap.size w w1 := bA.trans (b1.mono bA.size)
  have hF : Blk w1 w.heap.size 52 #[.float .f64 old, .float .f64 now, .float .f64 wt] := (Blk.new w 52 #[.float .f64 old, .float .f64 now, .float .f64 wt]).below b1
  clear b1 bA
  have HB1 := Lib.hid (And.intro bW hF)
  clear bW hF
  go_wp2_with fail
  refine (made_m pa na ca xs w1 HE.out.1 (HE.out.2.1.below HB1.out.1) (by omega)).mono ?_
  rintro e w2 ⟨r, t, rfl, M1⟩
  have HM1 := Lib.hid M1
  clear M1
  go_wp2_with fail
  refine (made_m pb nb cb bs w2 HE.out.2.2.1 (HE.out.2.2.2.below (HB1.out.1.trans (HM1.out.bel.mono HB1.out.1.size))) (by omega)).mono ?_
  rintro e w3 ⟨o, v, rfl, M2⟩
  obtain ⟨vv, hQ⟩ := Quad.of HM1.out M2
  obtain ⟨p, c, rfl, _⟩ := hQ.cellV
  have HQ := Lib.hid hQ
  clear hQ M2 HM1
  have hsb : sumV (noteL bs) = nb := by rw [(noteL_CN bs).sum, HE.out.2.2.1]
  have hsa : sumV (noteL xs) = na := by rw [(noteL_CN xs).sum, HE.out.1]
  have hla := noteL_len xs
  have hlb := noteL_len bs
  have hea := HE.out.1
  have heb := HE.out.2.2.1
  have hMl := refL_len bs
  have hLl := refL_len xs
  rw [hea] at hla hLl
  rw [heb] at hlb hMl
  go_wp2_with fail
  refine (HQ.out.join (by omega) (by omega)).mono ?_
  rintro e w4 ⟨rfl, hQ⟩
  replace HQ := Lib.hid hQ
  clear hQ
  obtain ⟨p', c', he, k0⟩ := HQ.out.cellV
  obtain ⟨rfl, _, rfl⟩ := Value.slice.inj he
  clear he
  have hJn := join_note xs bs
  obtain ⟨M, hM⟩ : ∃ M, refL bs = M := ⟨_, rfl⟩
  obtain ⟨m, hm⟩ : ∃ m, noteL bs = m := ⟨_, rfl⟩
  obtain ⟨J, hJ⟩ : ∃ J, joinL (noteL xs) (noteL bs) = J := ⟨_, rfl⟩
  rw [hJ] at HQ hJn
  rw [hm] at HQ hsb hlb
  rw [hM] at HQ hJn hMl k0
  have hnm : (na : Int) + sumV m = ((na + nb : Nat) : Int) := by rw [hsb]; omega
  rw [hnm] at HQ
  have hJl : J.length ≤ na + nb := by
    have h1 := noteL_len (xs ++ M)
    rw [← hJn] at h1
    simp at h1
    omega
  have HW := Lib.hid (And.intro hM (And.intro hm (And.intro hJ hJn)))
  clear hJn hM hm hJ hnm hsa hla
  go_wp2_with fail
  go_loopw [48] (fun s48 wr => ∃ i : Nat, i ≤ M.length ∧ s48 = .int .i64 i ∧ Quad w1 wr r t o v (.slice p M.length c) J ((na + nb : Nat) : Int) (refL (xs ++ M.take i)) m nb M) (fun s48 _ => M.length - (RowKit.intOf s48).toNat)
  case atStart => exact ⟨0, Nat.zero_le _, rfl, by simpa using HQ.out⟩
  case round =>
    obtain ⟨i, hi, rfl, hQ⟩ := hrel
    by_cases hlt : i < M.length
    · have hlt1 : (i : Int) < M.length := by omega
      obtain ⟨a, rfl, kw⟩ := hQ.listV i hlt
      have hw3 : IntKind.i64.wrap ((i : Int) + 1) = (i : Int) + 1 := by rw [IntKind.wrap_i64]; omega
      have htk : refL (xs ++ M.take (i + 1)) = insR (clampP M[i]) (refL (xs ++ M.take i)) := by
        rw [List.take_add_one, List.getElem?_eq_getElem hlt, ← refL_snoc, List.append_assoc]
        rfl
      have hl2 : (refL (xs ++ M.take i)).length < 1000 := by rw [refL_len, List.length_append, List.length_take]; omega
      generalize M[i] = x at kw htk
      have HD := Lib.hid (And.intro hQ (And.intro htk hl2))
      clear hQ htk hl2
      go_wp2_with fail
      refine (HD.out.1.note x HD.out.2.2).mono ?_
      rintro e w5 ⟨rfl, hQ⟩
      have HN := Lib.hid hQ
      clear hQ
      go_wp2_with fail
      go_roundw
      case rel =>
        refine ⟨i + 1, by omega, rfl, ?_⟩
        rw [HD.out.2.1]
        exact HN.out
      case measure => simp only [RowKit.intOf]; omega
    · obtain rfl : i = M.length := by omega
      have hlt1 : ¬ (M.length : Int) < M.length := by omega
      rw [List.take_of_length_le (Nat.le_refl _)] at hQ
      replace HQ := Lib.hid hQ
      clear hQ k0
      go_wp2_with fail
      refine (join_nil r _).mono ?_
      rintro e w' ⟨rfl, rfl⟩
      go_upto_region 14 with fail
      obtain ⟨pT, cT, hcT⟩ := HQ.out.cellT
      have hLT : (refL (xs ++ M)).length = na + nb := by rw [refL_len, List.length_append]; omega
      have hJe : refL (xs ++ M) = expand J := by rw [HW.out.2.2.2]; exact refL_expand _
      have hme : M = expand m := by rw [← HW.out.1, ← HW.out.2.1]; exact refL_expand _
      have hrJ : rle (refL (xs ++ M)) = J := by
        rw [hJe, HW.out.2.2.2]
        exact rows_law (noteL_sort _) (noteL_pos _)
      have hrm : rle M = m := by
        rw [hme, ← HW.out.2.1]
        exact rows_law (noteL_sort _) (noteL_pos _)
      rw [hLT] at hcT
      have hnn : (((na + nb : Nat) : Int) != ((na + nb : Nat) : Int)) = false := by simp
      have HX := Lib.hid (And.intro hcT (And.intro hrJ hrm))
      have HL := Lib.hid (below_drew wr)
      replace HQ := Lib.hid (HQ.out.below (below_drew wr))
      clear hcT hrJ hrm hJe hme
      go_region_held3 (fun w' => w'.cell? ⟨t, 0, none⟩ = some (.slice pT (na + nb) cT)) (exact (HL.out.cell (block_lt_of_cell HX.out.1)).trans HX.out.1) (first
        | (go_at_call 22; (with_reducible refine (HQ.out.rowsR).mono ?_); rintro e w5 ⟨v5, rfl, o5, b5⟩; obtain ⟨q5, c5, rfl, _⟩ := owns_row (owns0 o5); replace HQ := Lib.hid (HQ.out.below b5); replace HL := Lib.hid (HL.out.trans (b5.mono HL.out.size)); have HR5 := Lib.hid o5; clear o5 b5)
        | (go_at_call 23; (with_reducible refine (HQ.out.rowsT HX.out.2.1).mono ?_); rintro e w6 ⟨v6, rfl, o6, b6⟩; obtain ⟨q6, c6, rfl, _⟩ := owns_row (owns0 o6); replace HQ := Lib.hid (HQ.out.below b6); replace HL := Lib.hid (HL.out.trans (b6.mono HL.out.size)); replace HR5 := Lib.hid (owns_old b6 HR5.out); have HR6 := Lib.hid o6; clear o6 b6)
        | (go_at_call 21; (with_reducible refine (eqrows_c _ _ _ _ J _ (by omega) HR5.out HR6.out).mono ?_); rintro e w7 ⟨rfl, b7⟩; replace HQ := Lib.hid (HQ.out.below b7); replace HL := Lib.hid (HL.out.trans (b7.mono HL.out.size)); clear b7 HR5 HR6)
        | (go_at_call 13; (with_reducible refine (HQ.out.manyR).mono ?_); rintro e w8 ⟨rfl, rfl⟩)
        | (go_at_call 22; (with_reducible refine (HQ.out.rowsO).mono ?_); rintro e w5 ⟨v5, rfl, o5, b5⟩; obtain ⟨q5, c5, rfl, _⟩ := owns_row (owns0 o5); replace HQ := Lib.hid (HQ.out.below b5); replace HL := Lib.hid (HL.out.trans (b5.mono HL.out.size)); have HR5 := Lib.hid o5; clear o5 b5)
        | (go_at_call 23; (with_reducible refine (HQ.out.rowsV HX.out.2.2).mono ?_); rintro e w6 ⟨v6, rfl, o6, b6⟩; obtain ⟨q6, c6, rfl, _⟩ := owns_row (owns0 o6); replace HQ := Lib.hid (HQ.out.below b6); replace HL := Lib.hid (HL.out.trans (b6.mono HL.out.size)); replace HR5 := Lib.hid (owns_old b6 HR5.out); have HR6 := Lib.hid o6; clear o6 b6)
        | (go_at_call 21; (with_reducible refine (eqrows_c _ _ _ _ m _ (by omega) HR5.out HR6.out).mono ?_); rintro e w7 ⟨rfl, b7⟩; replace HQ := Lib.hid (HQ.out.below b7); replace HL := Lib.hid (HL.out.trans (b7.mono HL.out.size)); clear b7 HR5 HR6))
      clear hnn HX HL
      go_wp2_with fail
      refine (HQ.out.self (by omega) (by omega)).mono ?_
      rintro e wS ⟨rfl, hQ⟩
      have hev : ∀ x ∈ joinL m m, ∃ v : Int, x.val = v + v := by rw [← HW.out.2.1]; exact join_even (noteL_sort _)
      have hjl : (joinL m m).length ≤ 200 := by
        have h1 := joinL_len (k := m) (l := m) (by rw [← HW.out.2.1]; exact noteL_sort _)
        omega
      replace HQ := Lib.hid hQ
      clear hQ
      generalize joinL m m = J2 at *
      go_wp2_with fail
      refine (HQ.out.rowsO).mono ?_
      rintro e wT ⟨v5, rfl, o5, b5⟩
      obtain ⟨q5, c5, rfl, _, _, _, hR5, _⟩ := owns_row (owns0 o5)
      replace HQ := Lib.hid (HQ.out.below b5)
      have HR5 := Lib.hid (And.intro hR5 hev)
      clear o5 b5 hR5 hev
      go_wp2_with fail
      go_loopw [88] (fun s88 wr => ∃ i : Nat, i ≤ J2.length ∧ s88 = .int .i64 i ∧ Below wT.heap.size wT wr) (fun s88 _ => J2.length - (RowKit.intOf s88).toNat)
      case atStart => exact ⟨0, Nat.zero_le _, rfl, Below.refl _ _⟩
      case round =>
        obtain ⟨i, hi, rfl, hb⟩ := hrel
        by_cases hlt : i < J2.length
        · have hlt1 : (i : Int) < J2.length := by omega
          obtain ⟨a, rfl, kw0, kw1⟩ := HR5.out.1 i hlt
          have k0 := (hb.cell (block_lt_of_cell kw0)).trans kw0
          have k1 := (hb.cell (block_lt_of_cell kw1)).trans kw1
          clear kw0 kw1
          have hw3 : IntKind.i64.wrap ((i : Int) + 1) = (i : Int) + 1 := by rw [IntKind.wrap_i64]; omega
          obtain ⟨y, hy⟩ := HR5.out.2 _ (List.getElem_mem hlt)
          generalize J2[i] = x at k0 k1 hy
          have htm : x.val.tmod 2 = 0 := by rw [hy, show y + y = 2 * y by omega]; exact Int.mul_tmod_right 2 y
          have hA : Below wr.heap.size wr (wr.alloc (.cells #[.int .i64 x.key, .int .i64 x.val] 42)) := (Below.refl _ _).alloc (Nat.le_refl _) _
          have HB := Lib.hid (hb.trans (hA.mono hb.size))
          clear hb hA hy
          go_wp2_with fail
          go_roundw
          case rel => exact ⟨i + 1, by omega, rfl, HB.out⟩
          case measure => simp only [RowKit.intOf]; omega
        · obtain rfl : i = J2.length := by omega
          have hlt1 : ¬ (J2.length : Int) < J2.length := by omega
          replace HQ := Lib.hid (HQ.out.below hb)
          clear hb HR5
          go_upto_region 23 with fail
          have HB := Lib.hid (HB1.out.2.below HQ.out.bel)
          refine region_all (C := Below wr.heap.size wr) (by kernel_rfl) (by kernel_rfl) (below_drew _) ?_
          have HC0 : Below wr.heap.size wr wr := Below.refl _ _
          open BigFrame in
          repeat (first | go_big_quiet_skip | (go_big_quiet_want; first | (apply quiet_one (hC := HC0); exact rfl; exact Nat.le_of_ble_eq_true rfl; (focus (intro w' hw'; have q0 := (HB.out.below hw').cell 0; have q1 := (HB.out.below hw').cell 1; have q2 := (HB.out.below hw').cell 2; simp at q0 q1 q2; go_big_quiet_op; with_reducible exact rfl)); go_big_quiet_on) | (go_big_quiet_op; apply Exists.intro; refine ⟨fun w' hw' => ?_, ?_⟩; (focus (have q0 := (HB.out.below hw').cell 0; have q1 := (HB.out.below hw').cell 1; have q2 := (HB.out.below hw').cell 2; simp at q0 q1 q2; fail)); go_big_quiet_on)))
          refine wpQuiet_nil ?_
          intro wU hbU
          replace HQ := Lib.hid (HQ.out.below hbU)
          clear hbU HC0 HB
          obtain ⟨c1, wA, r1, o1, b1⟩ := op_run .sub (.inr (.inl rfl)) 23 now old wU
          obtain ⟨c2, wB, r2, o2, b2⟩ := op_run .mul (.inr (.inr rfl)) 23 wt c1 wA
          obtain ⟨c3, wC, r3, o3, b3⟩ := op_run .add (.inl rfl) 23 old c2 wB
          have HR := Lib.hid (show Res old now wt c3 from ⟨c1, c2, o1, o2, o3⟩)
          have HQC := Lib.hid (((HQ.out.below b1).below b2).below b3)
          clear o1 o2 o3 b1 b2 b3
          have hkk : (nb : Int) + sumV m = 2 * (nb : Int) := by omega
          rw [hkk] at HQC
          have hw2n : IntKind.i64.wrap (2 * (nb : Int)) = 2 * (nb : Int) := by rw [IntKind.wrap_i64]; omega
          rcases cs_of old now wt hwt with hoo | ⟨hoo, hww⟩ | ⟨hoo, hww, hw1⟩ | ⟨hoo, hww, hw1⟩ | ⟨hoo, hww, hw1, hnn⟩ | ⟨hoo, hww, hw1, hnn, hw0⟩ | ⟨hoo, hww, hw1, hnn, hw0⟩ | ⟨hoo, hww, hw1, hnn, hw0⟩
          · go_wp2_with fail
            refine HQC.out.manyO.mono ?_
            rintro e w' ⟨rfl, rfl⟩
            have HSm := Lib.hid (smooth_1 old now wt wC hoo)
            go_wp2_with fail
            refine HSm.out.mono ?_
            rintro e w' ⟨rfl, rfl⟩
            go_wp2_with fail
            refine (same_any _ _ _ (.inl rfl)).mono ?_
            rintro e w' ⟨rfl, rfl⟩
            go_wp2_with fail
            go_ret
            exact ⟨rfl, HB1.out.1.trans (HQC.out.bel.mono HB1.out.1.size)⟩
          · go_wp2_with fail
            refine HQC.out.manyO.mono ?_
            rintro e w' ⟨rfl, rfl⟩
            have HSm := Lib.hid (smooth_2 old now wt wC hoo hww)
            go_wp2_with fail
            refine HSm.out.mono ?_
            rintro e w' ⟨rfl, rfl⟩
            go_wp2_with fail
            refine (same_any _ _ _ (.inl rfl)).mono ?_
            rintro e w' ⟨rfl, rfl⟩
            go_wp2_with fail
            go_ret
            exact ⟨rfl, HB1.out.1.trans (HQC.out.bel.mono HB1.out.1.size)⟩
          · go_wp2_with fail
            refine HQC.out.manyO.mono ?_
            rintro e w' ⟨rfl, rfl⟩
            have HSm := Lib.hid (smooth_3 old now wt wC hoo hww hw1)
            go_wp2_with fail
            refine HSm.out.mono ?_
            rintro e w' ⟨rfl, rfl⟩
            go_wp2_with fail
            refine (same_any _ _ _ (.inl rfl)).mono ?_
            rintro e w' ⟨rfl, rfl⟩
            go_wp2_with fail
            go_ret
            exact ⟨rfl, HB1.out.1.trans (HQC.out.bel.mono HB1.out.1.size)⟩
          · go_wp2_with fail
            refine HQC.out.manyO.mono ?_
            rintro e w' ⟨rfl, rfl⟩
            have HSm := Lib.hid (smooth_4 old now wt wC hoo hww hw1)
            go_wp2_with fail
            refine HSm.out.mono ?_
            rintro e w' ⟨rfl, rfl⟩
            go_wp2_with fail
            refine (same_any _ _ _ (.inl rfl)).mono ?_
            rintro e w' ⟨rfl, rfl⟩
            go_wp2_with fail
            go_ret
            exact ⟨rfl, HB1.out.1.trans (HQC.out.bel.mono HB1.out.1.size)⟩
          · go_wp2_with fail
            refine HQC.out.manyO.mono ?_
            rintro e w' ⟨rfl, rfl⟩
            have HSm := Lib.hid (smooth_5 old now wt wC hoo hww hw1 hnn)
            go_wp2_with fail
            refine HSm.out.mono ?_
            rintro e w' ⟨rfl, rfl⟩
            go_wp2_with fail
            refine (same_any _ _ _ (.inl rfl)).mono ?_
            rintro e w' ⟨rfl, rfl⟩
            go_wp2_with fail
            go_ret
            exact ⟨rfl, HB1.out.1.trans (HQC.out.bel.mono HB1.out.1.size)⟩
          · go_wp2_with fail
            refine HQC.out.manyO.mono ?_
            rintro e w' ⟨rfl, rfl⟩
            have HSm := Lib.hid (smooth_6 old now wt wC hoo hww hw1 hnn hw0)
            go_wp2_with fail
            refine HSm.out.mono ?_
            rintro e w' ⟨rfl, rfl⟩
            go_wp2_with fail
            refine (same_any _ _ _ (.inl rfl)).mono ?_
            rintro e w' ⟨rfl, rfl⟩
            go_wp2_with fail
            go_ret
            exact ⟨rfl, HB1.out.1.trans (HQC.out.bel.mono HB1.out.1.size)⟩
          · go_wp2_with fail
            refine HQC.out.manyO.mono ?_
            rintro e w' ⟨rfl, rfl⟩
            have HSm := Lib.hid (smooth_7 old now wt wC hoo hww hw1 hnn hw0)
            go_wp2_with fail
            refine HSm.out.mono ?_
            rintro e w' ⟨rfl, rfl⟩
            go_wp2_with fail
            refine (same_any _ _ _ (.inl rfl)).mono ?_
            rintro e w' ⟨rfl, rfl⟩
            go_wp2_with fail
            go_ret
            exact ⟨rfl, HB1.out.1.trans (HQC.out.bel.mono HB1.out.1.size)⟩
          · go_wp2_with fail
            refine HQC.out.manyO.mono ?_
            rintro e w' ⟨rfl, rfl⟩
            have HSm := Lib.hid (smooth_8 old now wt wC hoo hww hw1 hnn hw0)
            go_wp2_with fail
            refine HSm.out.mono ?_
            rintro e wD ⟨c4, rfl, hr4, b4⟩
            have HD := Lib.hid (And.intro hr4 (HQC.out.bel.trans (b4.mono HQC.out.bel.size)))
            clear hr4 b4
            go_wp2_with fail
            refine (same_any _ _ _ (same_of (HD.out.1.same HR.out))).mono ?_
            rintro e w' ⟨rfl, rfl⟩
            go_wp2_with fail
            go_ret
            exact ⟨rfl, HB1.out.1.trans (HD.out.2.mono HB1.out.1.size)⟩
end Go.Proofs.Ytajklhlgakpgiaa
