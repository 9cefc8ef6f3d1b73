/-
  amblerlaw03.SplitTells answers true: the walk.
-/
import Derived.Test.YtacdbgoffepaaaaDoorBits
import Derived.Test.YtacdbgoffepaaaaDoorOrders
namespace Go.Proofs.YtacdbgoffepaaaaDoor
open Go.RowKit

theorem num_range (ea : Nat → Addr) (w : World) (hE : ErrsAt w ea) :
    Calls Tryd.prog 19 #[.iface 148 (.pointer (some (ea 0)))] w fun e w' => e = .returned (.int .i64 1) ∧ Below w.heap.size w w' := by
  have := num_err ea 0 (by decide) w hE
  simpa using this
theorem number57 (h : Int) (h1 : h < 18446744073709551616) (h0 : 0 ≤ h) (b cap : Nat) (w : World) (hB : Blk w b 24 (bitArr h 64)) :
    Calls Tryd.prog 17 #[.slice (some ⟨b, 0, none⟩) 57 cap] w fun e w' => e = .returned (.int .u64 (h / 128)) ∧ w = w' := by
  have := number_take h h1 h0 57 (by decide) b cap w hB
  simpa using this

set_option maxHeartbeats 2000000 in
set_option maxRecDepth 100000 in
theorem tells_walk (h d : Int) (w : World) (ea : Nat → Addr) (hE : ErrsAt w ea)
    (h0 : 0 ≤ h) (h1 : h < 18446744073709551616) :
    Calls Tryd.prog 3 #[.int .u64 h, .int .i64 d] w fun e w' => e = .returned (.bool true) ∧ Below w.heap.size w w' := by
  have HE := Lib.hid hE
  have HB := Lib.hid (bits_any h)
  have HH := Lib.hid (And.intro h0 h1)
  clear hE
  have hH0 : 0 ≤ h / 128 := by omega
  have hL0 : 0 ≤ h % 128 := by omega
  have hL1 : h % 128 < 128 := by omega
  have N1 := Lib.hid (fun b cap W => number57 h h1 h0 b cap W)
  have N2 := Lib.hid (fun b cap W => number_drop h h1 h0 b cap W)
  have N3 := Lib.hid (fun W => h1_any h W)
  have N4 := Lib.hid (fun W => h2_any h h0 h1 W)
  go_enter Tryd.func3, Tryd.ntmps3
  go_upto_region 4 with (first
    | (go_at_call 10; refine (alive03 _).mono ?_; rintro e w' ⟨rfl, rfl⟩)
    | (go_at_call 11; refine (HB.out _ h0 h1).mono ?_; rintro e w1 ⟨rfl, hb1⟩)
    | (refine wpList_store_row rfl 24 (.tmp 5) (.tmp 17) rfl _ (bitArr h 64) rfl rfl 24 _ (heap_alloc_new _ _) (by rw [bitArr_size]; exact size24) (by rw [bitArr_size]; rfl) (bitArr_one h 64) ?_; rw [World.setRow_alloc_new]))
  generalize hw2 : w1.alloc (Obj.cells (bitArr h 64) 24) = w2
  have hb2 : Below w.heap.size w w2 := by subst hw2; exact hb1.alloc hb1.size _
  have hX : Blk w2 w1.heap.size 24 (bitArr h 64) := by subst hw2; exact Blk.new w1 _ _
  have HX := Lib.hid hX
  have HB2 := Lib.hid hb2
  have HE2 := Lib.hid (HE.out.same hb2)
  clear hw2 hX hb2 HE HB
  generalize w1.heap.size = b at *
  by_cases hd : 0 ≤ d ∧ d ≤ 16
  · have HD := Lib.hid hd
    clear hd
    have T1 := Lib.hid (fun W => top_yes h d W h0 h1 HD.out.1 HD.out.2)
    have T2 := Lib.hid (fun W => refTop_yes h d W h0 h1 HD.out.1 HD.out.2)
    have B1 := Lib.hid (fun W => bit_yes h d W h0 h1 HD.out.1 HD.out.2)
    have B2 := Lib.hid (fun W => refBit_yes h d W h0 h1 HD.out.1 HD.out.2)
    generalize h / 2 ^ (64 - d).toNat = T at *
    generalize h / 2 ^ (63 - d).toNat % 2 = B at *
    generalize h / 128 = H at *
    generalize h % 128 = L at *
    go_upto_region 8 with (first
      | (go_at_call 12; refine (T1.out _).mono ?_; rintro e w' ⟨rfl, rfl⟩)
      | (go_at_call 14; refine (B1.out _).mono ?_; rintro e w' ⟨rfl, rfl⟩)
      | (go_at_call 13; refine (T2.out _).mono ?_; rintro e w3 ⟨rfl, hb3⟩)
      | (go_at_call 15; refine (B2.out _).mono ?_; rintro e w4 ⟨rfl, hb4⟩))
    have hb5 := hb3.trans (hb4.mono hb3.size)
    have HX4 := Lib.hid (HX.out.below hb5)
    have HE4 := Lib.hid (HE2.out.same hb5)
    have HB4 := Lib.hid (HB2.out.trans (hb5.mono HB2.out.size))
    clear hb3 hb4 hb5 HX HE2 HB2
    refine region_all (C := Below w4.heap.size w4) (by kernel_rfl) (by kernel_rfl) (below_drew _) ?_
    have HC0 : Below w4.heap.size w4 w4 := Below.refl _ _
    open BigFrame in
    repeat (first | go_big_quiet_skip | (go_big_quiet_want; first | (apply quiet_one (hC := HC0); exact rfl; exact Nat.le_of_ble_eq_true rfl; (focus (intro w' hw'; skip; go_big_quiet_op; with_reducible exact rfl)); go_big_quiet_on) | (go_big_quiet_op; apply Exists.intro; refine ⟨fun w' hw' => ?_, ?_⟩; (focus (skip; first | ((with_reducible exact quiet_call_same hw' (N3.out _))) | ((with_reducible exact quiet_call_same hw' (N4.out _))) | ((with_reducible exact quiet_call_same hw' (N1.out _ _ _ (HX4.out.below hw')))) | ((with_reducible exact quiet_call_same hw' (N2.out _ _ _ (HX4.out.below hw')))) | ((with_reducible exact quiet_call hw' (num_nil _))))); go_big_quiet_on)))
    refine wpQuiet_nil ?_
    intro w5 hb5
    go_wp2
    go_ret
    exact ⟨rfl, HB4.out.trans (hb5.mono HB4.out.size)⟩
  · have HD := Lib.hid hd
    clear hd
    have T1 := Lib.hid (fun W hE => top_no h d W (ea 0) hE HD.out)
    have T2 := Lib.hid (fun W => refTop_no h d W HD.out)
    have B1 := Lib.hid (fun W hE => bit_no h d W (ea 0) hE HD.out)
    have B2 := Lib.hid (fun W => refBit_no h d W HD.out)
    generalize h / 128 = H at *
    generalize h % 128 = L at *
    go_upto_region 8 with (first
      | (go_at_call 12; refine (T1.out _ (HE2.out.one 0 (by decide))).mono ?_; rintro e w3 ⟨rfl, hb3⟩)
      | (go_at_call 13; refine (T2.out _).mono ?_; rintro e w4 ⟨rfl, hb4⟩)
      | (go_at_call 14; refine (B1.out _ ((HE2.out.same (hb3.trans (hb4.mono hb3.size))).one 0 (by decide))).mono ?_; rintro e w5 ⟨rfl, hb5⟩)
      | (go_at_call 15; refine (B2.out _).mono ?_; rintro e w6 ⟨rfl, hb6⟩))
    have hbx := hb3.trans (hb4.mono hb3.size)
    have hby := hbx.trans (hb5.mono hbx.size)
    have hbz := hby.trans (hb6.mono hby.size)
    have HX4 := Lib.hid (HX.out.below hbz)
    have HE4 := Lib.hid (HE2.out.same hbz)
    have HB4 := Lib.hid (HB2.out.trans (hbz.mono HB2.out.size))
    clear hb3 hb4 hb5 hb6 hbx hby hbz HX HE2 HB2
    refine region_all (C := Below w6.heap.size w6) (by kernel_rfl) (by kernel_rfl) (below_drew _) ?_
    have HC0 : Below w6.heap.size w6 w6 := Below.refl _ _
    open BigFrame in
    repeat (first | go_big_quiet_skip | (go_big_quiet_want; first | (apply quiet_one (hC := HC0); exact rfl; exact Nat.le_of_ble_eq_true rfl; (focus (intro w' hw'; skip; go_big_quiet_op; with_reducible exact rfl)); go_big_quiet_on) | (go_big_quiet_op; apply Exists.intro; refine ⟨fun w' hw' => ?_, ?_⟩; (focus (skip; first | ((with_reducible exact quiet_call_same hw' (N3.out _))) | ((with_reducible exact quiet_call_same hw' (N4.out _))) | ((with_reducible exact quiet_call_same hw' (N1.out _ _ _ (HX4.out.below hw')))) | ((with_reducible exact quiet_call_same hw' (N2.out _ _ _ (HX4.out.below hw')))) | ((with_reducible exact quiet_call hw' (num_range ea _ (HE4.out.same hw')))))); go_big_quiet_on)))
    refine wpQuiet_nil ?_
    intro w5 hb5
    go_wp2
    go_ret
    exact ⟨rfl, HB4.out.trans (hb5.mono HB4.out.size)⟩

end Go.Proofs.YtacdbgoffepaaaaDoor
