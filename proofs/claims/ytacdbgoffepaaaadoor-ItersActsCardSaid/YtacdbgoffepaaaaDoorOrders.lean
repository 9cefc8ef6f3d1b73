/-
  amblerlaw03.SplitOrders answers true: the walk.
-/
import Derived.Test.YtacdbgoffepaaaaDoorSplit
namespace Go.Proofs.YtacdbgoffepaaaaDoor
open Go.RowKit

theorem alive03 (w : World) : Calls Tryd.prog 10 #[] w fun e w' => e = .returned (.bool true) ∧ w = w' := by
  have e1 := Lib.hid (show ((13835058055282163712 : Int) / 2 ^ (64 - 2 : Int).toNat) = 3 by decide)
  have e2 := Lib.hid (show ((255 : Int) % 128) = 127 by decide)
  go_enter Tryd.func10, Tryd.ntmps10
  go_wp2_with (first
    | (go_at_call 12; refine (top_yes 13835058055282163712 2 _ (by decide) (by decide) (by decide) (by decide)).mono ?_; rw [e1.out]; rintro e w' ⟨rfl, rfl⟩)
    | (go_at_call 18; refine (h2_any 255 (by decide) (by decide) _).mono ?_; rw [e2.out]; rintro e w' ⟨rfl, rfl⟩))
  go_ret
  exact ⟨rfl, rfl⟩

/-- An entry in a block of its own. -/
def EntAt (w : World) (g : Nat) (k v h : Int) : Prop := Blk w g 42 #[.int .u64 k, .int .u64 v, .int .u64 h]
theorem EntAt.cells {w : World} {g : Nat} {k v h : Int} (H : EntAt w g k v h) : w.cell? ⟨g, 0, none⟩ = some (.int .u64 k) ∧ w.cell? ⟨g, 1, none⟩ = some (.int .u64 v) ∧ w.cell? ⟨g, 2, none⟩ = some (.int .u64 h) :=
  ⟨Blk.cell H 0, Blk.cell H 1, Blk.cell H 2⟩
theorem EntAt.below {w w' : World} {g : Nat} {k v h : Int} (H : EntAt w g k v h) (hb : Below w.heap.size w w') : EntAt w' g k v h := Blk.below H hb

/-- The order's own laws, as the walk meets them. -/
theorem lessB_irrefl (h k : Int) : lessB h k h k = false := by simp [lessB]

/-- Top, Bit and Within of a hash at a depth and at the next one. -/
theorem depth_in (h d : Int) (h0 : 0 ≤ h) (h1 : h < 18446744073709551616) (d0 : 0 ≤ d) (d1 : d ≤ 15) :
    ∃ T M B : Int, 0 ≤ T ∧ T < 65536 ∧ 0 ≤ M ∧ M < 65536 ∧ 0 ≤ B ∧ B ≤ 1 ∧ (M == 2 * T + B) = true ∧
      (∀ W, Calls Tryd.prog 12 #[.int .u64 h, .int .i64 d] W fun e w' => e = .returned (.tuple #[.int .i64 T, .nilIface]) ∧ W = w') ∧
      (∀ W, Calls Tryd.prog 12 #[.int .u64 h, .int .i64 (d + 1)] W fun e w' => e = .returned (.tuple #[.int .i64 M, .nilIface]) ∧ W = w') ∧
      (∀ W, Calls Tryd.prog 14 #[.int .u64 h, .int .i64 d] W fun e w' => e = .returned (.tuple #[.int .i64 B, .nilIface]) ∧ W = w') ∧
      withinB h T d = true ∧ withinB h M (d + 1) = true ∧ withinB h (2 * T + 1 - B) (d + 1) = false := by
  have hT0 := (shr_lt h h0 (64 - d).toNat).1
  have hT1 := top_lt h d h1 d0 (by omega)
  have hT2 := pow_le16 d (by omega)
  have e63 : (64 - (d + 1)).toNat = (63 - d).toNat := by omega
  have hM0 := (shr_lt h h0 (63 - d).toNat).1
  have hM1 : h / 2 ^ (63 - d).toNat < 2 ^ (d + 1).toNat := by rw [← e63]; exact top_lt h (d + 1) h1 (by omega) (by omega)
  have hM2 := pow_le16 (d + 1) (by omega)
  have hMT : h / 2 ^ (63 - d).toNat / 2 = h / 2 ^ (64 - d).toNat := by
    have e : (64 - d).toNat = (63 - d).toNat + 1 := by omega
    rw [e, Int.pow_succ, ← Int.ediv_ediv_of_nonneg (Int.pow_nonneg (by decide))]
  have X2 := fun W => top_yes h (d + 1) W h0 h1 (by omega) (by omega)
  rw [e63] at X2
  refine ⟨h / 2 ^ (64 - d).toNat, h / 2 ^ (63 - d).toNat, h / 2 ^ (63 - d).toNat % 2, hT0, by omega, hM0, by omega, by omega, by omega, ?_,
    fun W => top_yes h d W h0 h1 d0 (by omega), X2, fun W => bit_yes h d W h0 h1 d0 (by omega), decide_eq_true ⟨d0, by omega, hT0, hT1, rfl⟩,
    decide_eq_true ⟨by omega, by omega, hM0, hM1, by rw [e63]⟩, decide_eq_false ?_⟩
  · rw [beq_iff_eq]; omega
  · rintro ⟨_, _, _, _, hx⟩
    rw [e63] at hx
    omega

set_option maxHeartbeats 2000000 in
set_option maxRecDepth 100000 in
theorem orders_walk (k1 v1 h1 k2 v2 h2 d : Int) (w : World) (ea : Addr) (hE : ErrAt w 0 ea)
    (k10 : 0 ≤ k1) (k11 : k1 < 18446744073709551616) (h10 : 0 ≤ h1) (h11 : h1 < 18446744073709551616) (k20 : 0 ≤ k2) (k21 : k2 < 18446744073709551616) (h20 : 0 ≤ h2) (h21 : h2 < 18446744073709551616) (dl : -9223372036854775808 ≤ d) (du : d ≤ 9223372036854775807) :
    Calls Tryd.prog 6 #[entV k1 v1 h1, entV k2 v2 h2, .int .i64 d] w fun e w' => e = .returned (.bool true) ∧ Below w.heap.size w w' := by
  have HE := Lib.hid hE
  have HDD := Lib.hid (And.intro dl du)
  clear hE dl du
  go_enter Tryd.func6, Tryd.ntmps6
  go_upto_region 3 with (go_at_call 10; refine (alive03 _).mono ?_; rintro e w' ⟨rfl, rfl⟩)
  go_cut [7] (fun s7 wx => s7 = .bool (h1 == h2 && k1 == k2) ∧ EntAt wx w.heap.size k1 v1 h1 ∧ EntAt wx (w.heap.size + 1) k2 v2 h2 ∧ Below w.heap.size w wx)
  case first =>
    have hA : EntAt ((w.alloc (Obj.cells #[Value.int IntKind.u64 k1, Value.int IntKind.u64 v1, Value.int IntKind.u64 h1] 42)).alloc (Obj.cells #[Value.int IntKind.u64 k2, Value.int IntKind.u64 v2, Value.int IntKind.u64 h2] 42)) w.heap.size k1 v1 h1 := (Blk.new w _ _).alloc _
    have hB : EntAt ((w.alloc (Obj.cells #[Value.int IntKind.u64 k1, Value.int IntKind.u64 v1, Value.int IntKind.u64 h1] 42)).alloc (Obj.cells #[Value.int IntKind.u64 k2, Value.int IntKind.u64 v2, Value.int IntKind.u64 h2] 42)) (w.heap.size + 1) k2 v2 h2 := by
      have := Blk.new (w.alloc (Obj.cells #[Value.int IntKind.u64 k1, Value.int IntKind.u64 v1, Value.int IntKind.u64 h1] 42)) 42 #[.int .u64 k2, .int .u64 v2, .int .u64 h2]
      simpa [EntAt] using this
    have HAB := Lib.hid (And.intro hA hB)
    clear hA hB
    by_cases hh : (h1 == h2) = true
    · have hh2 := hh
      go_wp2
      go_meet
      exact ⟨by rw [hh2]; rfl, HAB.out.1, HAB.out.2, ((Below.refl _ _).alloc (Nat.le_refl _) _).alloc (by simp) _⟩
    · have hh2 : (h1 == h2) = false := by simpa using hh
      clear hh
      go_wp2
      go_meet
      exact ⟨by rw [hh2]; rfl, HAB.out.1, HAB.out.2, ((Below.refl _ _).alloc (Nat.le_refl _) _).alloc (by simp) _⟩
  case rest =>
    obtain ⟨rfl, hA, hB, hb⟩ := hcut
    have HW := Lib.hid (And.intro hA (And.intro hB hb))
    clear hA hB hb
    go_upto_region 4 with fail
    go_cut [60] (fun s60 wx => s60 = .bool false ∧ EntAt wx w.heap.size k1 v1 h1 ∧ EntAt wx (w.heap.size + 1) k2 v2 h2 ∧ Below w.heap.size w wx)
    case first =>
      have HL : (lessB h1 k1 h2 k2 = true ∧ lessB h2 k2 h1 k1 = false ∧ (h1 == h2 && k1 == k2) = false) ∨ (lessB h1 k1 h2 k2 = false ∧ lessB h2 k2 h1 k1 = true ∧ (h1 == h2 && k1 == k2) = false) ∨ (lessB h1 k1 h2 k2 = false ∧ lessB h2 k2 h1 k1 = false ∧ (h1 == h2 && k1 == k2) = true) := by
        by_cases a : h1 = h2
        · subst a
          by_cases b : k1 = k2
          · subst b; simp [lessB]
          · rcases Int.lt_or_gt_of_ne b with c | c
            · left; simp [lessB, b]; omega
            · right; left; simp [lessB, b]; omega
        · rcases Int.lt_or_gt_of_ne a with c | c
          · left; simp [lessB, a]; omega
          · right; left; simp [lessB, a]; omega
      generalize (h1 == h2 && k1 == k2) = sm at *
      generalize hl1 : lessB h1 k1 h2 k2 = l1 at *
      generalize hl2 : lessB h2 k2 h1 k1 = l2 at *
      have HL1 := Lib.hid hl1
      have HL2 := Lib.hid hl2
      clear hl1 hl2
      refine region_all (C := Below wc.heap.size wc) (by kernel_rfl) (by kernel_rfl) (below_drew _) ?_
      have HC0 : Below wc.heap.size wc wc := Below.refl _ _
      rcases HL with ⟨rfl, rfl, rfl⟩ | ⟨rfl, rfl, rfl⟩ | ⟨rfl, rfl, rfl⟩
      all_goals
        open BigFrame in
        repeat (first | go_big_quiet_skip | (go_big_quiet_want; first | (apply quiet_one (hC := HC0); exact rfl; exact Nat.le_of_ble_eq_true rfl; (focus (intro w' hw'; have c1 := (HW.out.1.below hw').cells; have c2 := (HW.out.2.1.below hw').cells; obtain ⟨c10, c11, c12⟩ := c1; obtain ⟨c20, c21, c22⟩ := c2; go_big_quiet_op; with_reducible exact rfl)); go_big_quiet_on) | (go_big_quiet_op; apply Exists.intro; refine ⟨fun w' hw' => ?_, ?_⟩; (focus (have c1 := (HW.out.1.below hw').cells; have c2 := (HW.out.2.1.below hw').cells; obtain ⟨c10, c11, c12⟩ := c1; obtain ⟨c20, c21, c22⟩ := c2; first | ((have X := less_any k1 v1 h1 k2 v2 h2 w'; rw [HL1.out] at X; with_reducible exact quiet_call hw' X)) | ((have X := less_any k2 v2 h2 k1 v1 h1 w'; rw [HL2.out] at X; with_reducible exact quiet_call hw' X)) | ((have X := before_any k1 v1 h1 k2 v2 h2 w'; rw [HL1.out] at X; with_reducible exact quiet_call hw' X)))); go_big_quiet_on)))
        refine wpQuiet_nil ?_
        intro w1 hb1
        go_wp2
        go_meet
        exact ⟨rfl, HW.out.1.below hb1, HW.out.2.1.below hb1, HW.out.2.2.trans (hb1.mono HW.out.2.2.size)⟩
    case rest =>
      obtain ⟨rfl, hA, hB, hb⟩ := hcut
      by_cases hs : k1 < 18446744073709551615 ∨ h1 < 18446744073709551615
      · -- there is a next one
        have hn : afterB k1 h1 = true := by simp [afterB]; exact hs
        have HN := Lib.hid (show lessB h1 k1 (afterH k1 h1) (afterK k1) = true by
          by_cases a : k1 < 18446744073709551615
          · simp [lessB, afterH, afterK, a]; omega
          · have b : h1 < 18446744073709551615 := by omega
            simp [lessB, afterH, afterK, a, b]; omega)
        have HM := Lib.hid (show lessB h1 k1 h2 k2 = true → lessB h2 k2 (afterH k1 h1) (afterK k1) = false by
          by_cases a : k1 < 18446744073709551615
          · simp [lessB, afterH, afterK, a]; omega
          · have b : h1 < 18446744073709551615 := by omega
            simp [lessB, afterH, afterK, a, b]; omega)
        have HX := Lib.hid (after_any k1 v1 h1)
        generalize afterH k1 h1 = nh at *
        generalize afterK k1 = nk at *
        rw [hn] at HX
        have c1 := hA.cells
        obtain ⟨c10, c11, c12⟩ := c1
        go_upto_region 10 with (go_at_call 31; refine (HX.out _ k10 h10).mono ?_; rintro e w1 ⟨rfl, hb1⟩)
        generalize hw2 : w1.alloc (Obj.cells #[Value.int IntKind.u64 nk, Value.int IntKind.u64 0, Value.int IntKind.u64 nh] 42) = w2
        have hb2 : Below wc.heap.size wc w2 := by subst hw2; exact hb1.alloc hb1.size _
        have hX : EntAt w2 w1.heap.size nk 0 nh := by subst hw2; exact Blk.new w1 _ _
        have HW2 := Lib.hid (And.intro (hA.below hb2) (And.intro (hB.below hb2) (And.intro hX (hb.trans (hb2.mono hb.size)))))
        clear hw2 hb2 hX hA hB hb hb1 c10 c11 c12 hs hn HX HW
        go_cut [109] (fun s109 wx => s109 = .bool false ∧ EntAt wx w.heap.size k1 v1 h1 ∧ Below w.heap.size w wx)
        case first =>
          refine region_seq (C := Below w2.heap.size w2) (Below.refl _ _) ?_
          have HC0 : Below w2.heap.size w2 w2 := Below.refl _ _
          generalize hl1 : lessB h1 k1 h2 k2 = l1 at *
          have HL1 := Lib.hid hl1
          clear hl1
          cases l1
          case false =>
            open BigFrame in
            repeat (first | go_big_quiet_skip | (go_big_quiet_want; first | (apply quiet_one (hC := HC0); exact rfl; exact Nat.le_of_ble_eq_true rfl; (focus (intro w' hw'; have c1 := (HW2.out.1.below hw').cells; have c2 := (HW2.out.2.1.below hw').cells; have c3 := (HW2.out.2.2.1.below hw').cells; obtain ⟨c10, c11, c12⟩ := c1; obtain ⟨c20, c21, c22⟩ := c2; obtain ⟨c30, c31, c32⟩ := c3; go_big_quiet_op; with_reducible exact rfl)); go_big_quiet_on) | (go_big_quiet_op; apply Exists.intro; refine ⟨fun w' hw' => ?_, ?_⟩; (focus (have c1 := (HW2.out.1.below hw').cells; have c2 := (HW2.out.2.1.below hw').cells; have c3 := (HW2.out.2.2.1.below hw').cells; obtain ⟨c10, c11, c12⟩ := c1; obtain ⟨c20, c21, c22⟩ := c2; obtain ⟨c30, c31, c32⟩ := c3; first | ((have X := less_any k1 v1 h1 nk 0 nh w'; rw [HN.out] at X; with_reducible exact quiet_call hw' X)) | ((have X := less_any k1 v1 h1 k2 v2 h2 w'; rw [HL1.out] at X; with_reducible exact quiet_call hw' X)))); go_big_quiet_on)))
            refine wpQuiet_nil ?_
            intro w3 hb3
            go_wp2
            go_meet
            exact ⟨rfl, HW2.out.1.below hb3, HW2.out.2.2.2.trans (hb3.mono HW2.out.2.2.2.size)⟩
          case true =>
            open BigFrame in
            repeat (first | go_big_quiet_skip | (go_big_quiet_want; first | (apply quiet_one (hC := HC0); exact rfl; exact Nat.le_of_ble_eq_true rfl; (focus (intro w' hw'; have c1 := (HW2.out.1.below hw').cells; have c2 := (HW2.out.2.1.below hw').cells; have c3 := (HW2.out.2.2.1.below hw').cells; obtain ⟨c10, c11, c12⟩ := c1; obtain ⟨c20, c21, c22⟩ := c2; obtain ⟨c30, c31, c32⟩ := c3; go_big_quiet_op; with_reducible exact rfl)); go_big_quiet_on) | (go_big_quiet_op; apply Exists.intro; refine ⟨fun w' hw' => ?_, ?_⟩; (focus (have c1 := (HW2.out.1.below hw').cells; have c2 := (HW2.out.2.1.below hw').cells; have c3 := (HW2.out.2.2.1.below hw').cells; obtain ⟨c10, c11, c12⟩ := c1; obtain ⟨c20, c21, c22⟩ := c2; obtain ⟨c30, c31, c32⟩ := c3; first | ((have X := less_any k1 v1 h1 nk 0 nh w'; rw [HN.out] at X; with_reducible exact quiet_call hw' X)) | ((have X := less_any k1 v1 h1 k2 v2 h2 w'; rw [HL1.out] at X; with_reducible exact quiet_call hw' X)) | ((have X := less_any k2 v2 h2 nk 0 nh w'; rw [HM.out rfl] at X; with_reducible exact quiet_call hw' X)))); go_big_quiet_on)))
            refine wpQuiet_nil ?_
            intro w3 hb3
            go_wp2
            go_meet
            exact ⟨rfl, HW2.out.1.below hb3, HW2.out.2.2.2.trans (hb3.mono HW2.out.2.2.2.size)⟩
        case rest =>
          obtain ⟨rfl, hA, hb⟩ := hcut
          clear HW2 HN HM
          have c1 := hA.cells
          obtain ⟨c10, c11, c12⟩ := c1
          have HEc := Lib.hid (HE.out.below hb (Nat.le_refl _))
          by_cases hd : 0 ≤ d ∧ d ≤ 15
          · obtain ⟨d0, d1⟩ := hd
            obtain ⟨T, M, B, hT0, hT1, hM0, hM1, hB0, hB1, hMe, x1, x2, x3, y1, y2, y3⟩ := depth_in h1 d h10 h11 d0 d1
            have X1 := Lib.hid x1
            have X2 := Lib.hid x2
            have X3 := Lib.hid x3
            have Y := Lib.hid (And.intro y1 (And.intro y2 y3))
            clear x1 x2 x3 y1 y2 y3
            go_upto_region 17 with (first
              | (go_at_call 14; refine (X3.out _).mono ?_; rintro e w' ⟨rfl, rfl⟩)
              | (go_at_call 12; with_reducible refine (X1.out _).mono ?_; rintro e w' ⟨rfl, rfl⟩)
              | (go_at_call 12; with_reducible refine (X2.out _).mono ?_; rintro e w' ⟨rfl, rfl⟩))
            refine region_seq (C := Below wc.heap.size wc) (Below.refl _ _) ?_
            have HC0 : Below wc.heap.size wc wc := Below.refl _ _
            open BigFrame in
            repeat (first | go_big_quiet_skip | (go_big_quiet_want; first | (apply quiet_one (hC := HC0); exact rfl; exact Nat.le_of_ble_eq_true rfl; (focus (intro w' hw'; have c1 := (hA.below hw').cells; obtain ⟨c10, c11, c12⟩ := c1; go_big_quiet_op; with_reducible exact rfl)); go_big_quiet_on) | (go_big_quiet_op; apply Exists.intro; refine ⟨fun w' hw' => ?_, ?_⟩; (focus (have c1 := (hA.below hw').cells; obtain ⟨c10, c11, c12⟩ := c1; first | ((have X := within_any h1 T d w' ea (HEc.out.same hw') h10 h11; rw [Y.out.1] at X; with_reducible exact quiet_call hw' X)) | ((have X := within_any h1 M (d + 1) w' ea (HEc.out.same hw') h10 h11; rw [Y.out.2.1] at X; with_reducible exact quiet_call hw' X)) | ((have X := within_any h1 (2 * T + 1 - B) (d + 1) w' ea (HEc.out.same hw') h10 h11; rw [Y.out.2.2] at X; with_reducible exact quiet_call hw' X)))); go_big_quiet_on)))
            refine wpQuiet_nil ?_
            intro w3 hb3
            go_wp2
            go_ret
            exact ⟨rfl, hb.trans (hb3.mono hb.size)⟩
          · have HH := Lib.hid (And.intro h10 h11)
            clear h10 h11 h20 h21 k10 k11 k20 k21
            by_cases d16 : d = 16
            · subst d16
              clear hd HDD
              go_wp2_with fail
              refine (top_yes h1 16 _ HH.out.1 HH.out.2 (by decide) (by decide)).mono ?_
              rintro e w1 ⟨rfl, rfl⟩
              go_wp2_with fail
              refine (top_no h1 17 _ ea HEc.out (by decide)).mono ?_
              rintro e w1 ⟨rfl, hb1⟩
              have c2 := (hA.below hb1).cells
              obtain ⟨c20, c21, c22⟩ := c2
              go_wp2_with fail
              refine (bit_yes h1 16 _ HH.out.1 HH.out.2 (by decide) (by decide)).mono ?_
              rintro e w1 ⟨rfl, rfl⟩
              go_wp2
              go_ret
              exact ⟨rfl, hb.trans (hb1.mono hb.size)⟩
            · by_cases dm : d = -1
              · subst dm
                clear hd d16 HDD
                go_wp2_with fail
                refine (top_no h1 (-1) _ ea HEc.out (by decide)).mono ?_
                rintro e w1 ⟨rfl, hb1⟩
                have c2 := (hA.below hb1).cells
                obtain ⟨c20, c21, c22⟩ := c2
                go_wp2_with fail
                refine (top_yes h1 0 _ HH.out.1 HH.out.2 (by decide) (by decide)).mono ?_
                rintro e w1 ⟨rfl, rfl⟩
                go_wp2_with fail
                refine (bit_no h1 (-1) _ ea (HEc.out.same hb1) (by decide)).mono ?_
                rintro e w2 ⟨rfl, hb2⟩
                go_wp2
                go_ret
                exact ⟨rfl, hb.trans ((hb1.trans (hb2.mono hb1.size)).mono hb.size)⟩
              · have hd1 := Lib.hid (show ¬ (0 ≤ d ∧ d ≤ 16) by omega)
                have hd2 := Lib.hid (show ¬ (0 ≤ IntKind.i64.wrap (d + 1) ∧ IntKind.i64.wrap (d + 1) ≤ 16) by
                  have := HDD.out
                  rw [IntKind.wrap_i64]; omega)
                have hd3 := Lib.hid (show ¬ (0 ≤ wrap64 (d + 1) ∧ wrap64 (d + 1) ≤ 16) by
                  have := HDD.out
                  unfold wrap64; omega)
                have hd4 := Lib.hid (show ¬ (0 ≤ d + 1 ∧ d + 1 ≤ 16) by omega)
                rcases (show d < 0 ∨ 15 < d by omega) with hdn | hdn
                all_goals
                  clear hd d16 dm HDD
                  go_wp2_with fail
                  refine (top_no h1 d _ ea HEc.out hd1.out).mono ?_
                  rintro e w1 ⟨rfl, hb1⟩
                  have c2 := (hA.below hb1).cells
                  obtain ⟨c20, c21, c22⟩ := c2
                  go_wp2_with fail
                  first
                    | with_reducible refine (top_no h1 (d + 1) _ ea (HEc.out.same hb1) hd4.out).mono ?_
                    | with_reducible refine (top_no h1 (wrap64 (d + 1)) _ ea (HEc.out.same hb1) hd3.out).mono ?_
                    | with_reducible refine (top_no h1 (IntKind.i64.wrap (d + 1)) _ ea (HEc.out.same hb1) hd2.out).mono ?_
                  rintro e w2 ⟨rfl, hb2⟩
                  have c3 := ((hA.below hb1).below hb2).cells
                  obtain ⟨c30, c31, c32⟩ := c3
                  go_wp2_with fail
                  refine (bit_no h1 d _ ea ((HEc.out.same hb1).same hb2) hd1.out).mono ?_
                  rintro e w3 ⟨rfl, hb3⟩
                  go_wp2
                  go_ret
                  exact ⟨rfl, hb.trans (((hb1.trans (hb2.mono hb1.size)).trans (hb3.mono (Nat.le_trans hb1.size hb2.size))).mono hb.size)⟩
      · have hk : ¬ k1 < 18446744073709551615 := fun h => hs (Or.inl h)
        have hh : ¬ h1 < 18446744073709551615 := fun h => hs (Or.inr h)
        have HL := Lib.hid (show lessB h1 k1 h2 k2 = false by simp [lessB]; omega)
        have e1 : IntKind.u64.wrap (k1 + 1) = 0 := by rw [IntKind.wrap_u64]; omega
        have e2 : IntKind.u64.wrap (h1 + 1) = 0 := by rw [IntKind.wrap_u64]; omega
        have E1 := Lib.hid e1
        have E2 := Lib.hid e2
        have HK := Lib.hid (And.intro hk (And.intro hh (And.intro k10 (And.intro k11 (And.intro h10 (And.intro h11 (And.intro k20 k21)))))))
        clear e1 e2 hk hh hs k10 k11 h10 h11 k20 k21
        have c1 := hA.cells
        obtain ⟨c10, c11, c12⟩ := c1
        go_upto_region 9 with (go_at_call 31; refine (after_none k1 v1 h1 _ HK.out.1 HK.out.2.1).mono ?_; rintro e w1 ⟨rfl, hb1⟩)
        generalize hw2 : w1.alloc (Obj.cells #[Value.int IntKind.u64 0, Value.int IntKind.u64 0, Value.int IntKind.u64 0] 42) = w2
        have hb2 : Below wc.heap.size wc w2 := by subst hw2; exact hb1.alloc hb1.size _
        clear hw2
        refine region_seq (C := Below w2.heap.size w2) (Below.refl _ _) ?_
        have HC0 : Below w2.heap.size w2 w2 := Below.refl _ _
        open BigFrame in
        repeat (first | go_big_quiet_skip | (go_big_quiet_want; first | (apply quiet_one (hC := HC0); exact rfl; exact Nat.le_of_ble_eq_true rfl; (focus (intro w' hw'; have hd := (hb2.trans (hw'.mono hb2.size)); have c1 := (hA.below hd).cells; have c2 := (hB.below hd).cells; obtain ⟨c10, c11, c12⟩ := c1; obtain ⟨c20, c21, c22⟩ := c2; have e1 := E1.out; have e2 := E2.out; go_big_quiet_op; with_reducible exact rfl)); go_big_quiet_on) | (go_big_quiet_op; apply Exists.intro; refine ⟨fun w' hw' => ?_, ?_⟩; (focus (have hd := (hb2.trans (hw'.mono hb2.size)); have c1 := (hA.below hd).cells; have c2 := (hB.below hd).cells; obtain ⟨c10, c11, c12⟩ := c1; obtain ⟨c20, c21, c22⟩ := c2; have e1 := E1.out; have e2 := E2.out; first | ((have X := less_any k1 v1 h1 k2 v2 h2 w'; rw [HL.out] at X; with_reducible exact quiet_call hw' X)))); go_big_quiet_on)))
        refine wpQuiet_nil ?_
        intro w3 hb3
        go_wp2
        go_ret
        exact ⟨rfl, hb.trans ((hb2.trans (hb3.mono hb2.size)).mono hb.size)⟩

end Go.Proofs.YtacdbgoffepaaaaDoor
