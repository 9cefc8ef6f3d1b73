/-
  amblerlaw07.CreditActs answers true: the walk. (Printed by mkcract.py.)
-/
import Derived.Test.YtcelngblkjbnfaaKeeps
import Derived.Deep.RegionHeld3
namespace Go.Proofs.Ytcelngblkjbnfaa
open Go.RowKit

/-- What the walk knows of a world: both ledgers alike. -/
structure BothAt (w0 w : World) (b c : Nat) (bal : Int) (rest : Nat) : Prop where
  led : LedAt w b bal rest
  ref : RefAt w c bal rest
  old : Below w0.heap.size w0 w
  lo : w0.heap.size ≤ b
  lo2 : w0.heap.size ≤ c
  ne : b ≠ c
/-- Half a step: one ledger has gone on, the other not yet; and an act in a block. -/
structure HalfAt (w0 w : World) (b c : Nat) (bal : Int) (rest : Nat) (bal2 : Int) (rest2 : Nat) (ab : Nat) (kd n : Int) (f : Nat) : Prop where
  led : LedAt w b bal rest
  ref : RefAt w c bal2 rest2
  old : Below w0.heap.size w0 w
  lo : w0.heap.size ≤ b
  lo2 : w0.heap.size ≤ c
  ne : b ≠ c
  act : Blk w ab 41 #[.int .i64 kd, .int .i64 n, .float .f64 f]
  ab1 : ab ≠ b
  ab2 : ab ≠ c
section
variable {w0 w w' : World} {b c ab : Nat} {bal bal2 bal' kd n : Int} {rest rest2 rest' f : Nat}
theorem LedAt.below (H : LedAt w b bal rest) (hb : Below w.heap.size w w') : LedAt w' b bal rest := Blk.below H hb
theorem RefAt.below (H : RefAt w b bal rest) (hb : Below w.heap.size w w') : RefAt w' b bal rest := Blk.below H hb
theorem LedAt.but (H : LedAt w b bal rest) (hb : But c w w') (hne : b ≠ c) : LedAt w' b bal rest := Blk.but H hb hne
theorem RefAt.but (H : RefAt w b bal rest) (hb : But c w w') (hne : b ≠ c) : RefAt w' b bal rest := Blk.but H hb hne
theorem HalfAt.below (H : HalfAt w0 w b c bal rest bal2 rest2 ab kd n f) (hb : Below w.heap.size w w') : HalfAt w0 w' b c bal rest bal2 rest2 ab kd n f :=
  ⟨H.led.below hb, H.ref.below hb, H.old.trans (hb.mono H.old.size), H.lo, H.lo2, H.ne, H.act.below hb, H.ab1, H.ab2⟩
theorem HalfAt.butb (H : HalfAt w0 w b c bal rest bal2 rest2 ab kd n f) (hb : But b w w') (hL : LedAt w' b bal' rest') : HalfAt w0 w' b c bal' rest' bal2 rest2 ab kd n f :=
  ⟨hL, H.ref.but hb (Ne.symm H.ne), H.old.trans (hb.below H.lo H.old.size), H.lo, H.lo2, H.ne, Blk.but H.act hb H.ab1, H.ab1, H.ab2⟩
theorem HalfAt.butc (H : HalfAt w0 w b c bal rest bal2 rest2 ab kd n f) (hb : But c w w') (hL : RefAt w' c bal' rest') : HalfAt w0 w' b c bal rest bal' rest' ab kd n f :=
  ⟨H.led.but hb H.ne, hL, H.old.trans (hb.below H.lo2 H.old.size), H.lo, H.lo2, H.ne, Blk.but H.act hb H.ab2, H.ab1, H.ab2⟩
theorem HalfAt.cells (H : HalfAt w0 w b c bal rest bal2 rest2 ab kd n f) : w.cell? ⟨ab, 0, none⟩ = some (.int .i64 kd) ∧ w.cell? ⟨ab, 1, none⟩ = some (.int .i64 n) ∧ w.cell? ⟨ab, 2, none⟩ = some (.float .f64 f) :=
  ⟨Blk.cell H.act 0, Blk.cell H.act 1, Blk.cell H.act 2⟩
end

set_option maxHeartbeats 2000000 in
set_option maxRecDepth 100000 in
theorem acts_walk (p : Option Addr) (n cap : Nat) (F : Nat → Act7) (w : World) (hA : ActsAt w p n F) (hF : ∀ i, i < n → (F i).ok) (hn : n ≤ maxLen) :
    Calls Try.prog 5 #[.slice p n cap] w fun e w' => e = .returned (.bool true) ∧ Below w.heap.size w w' := by
  have HA := Lib.hid (And.intro hA hF)
  clear hA hF
  have hst := store_f
  go_enter Try.func5, Try.ntmps5
  go_upto_region 3 with (go_at_call 7; refine (alive_yes _).mono ?_; rintro e w2 ⟨rfl, hb2⟩)
  have HK := Lib.hid hb2
  clear hb2
  by_cases h60 : 60 < n
  · have h60' : (60 : Int) < n := by omega
    clear h60
    go_wp2
    go_ret
    exact ⟨rfl, HK.out⟩
  · have h60' : (n : Int) ≤ 60 := by omega
    clear h60
    go_upto_region 6 with fail
    generalize hw3 : w2.alloc (Obj.cells #[Value.int IntKind.i64 0, Value.float FloatKind.f64 0] 30) = w3
    have hc3 : LedAt w3 w2.heap.size 0 0 := by subst hw3; exact Blk.new w2 _ _
    have hb3 : Below w2.heap.size w2 w3 := by subst hw3; exact (Below.refl _ _).alloc (Nat.le_refl _) _
    have hz3 : w3.heap.size = w2.heap.size + 1 := by subst hw3; exact Array.size_push _
    clear hw3
    rw [← hz3]
    generalize hw1 : w3.alloc (Obj.cells #[Value.int IntKind.i64 0, Value.float FloatKind.f64 0] 39) = w1
    have hB1 : Below w3.heap.size w3 w1 := by subst hw1; exact (Below.refl _ _).alloc (Nat.le_refl _) _
    have hR1 : RefAt w1 w3.heap.size 0 0 := by subst hw1; exact Blk.new w3 _ _
    have HS0 := Lib.hid (show BothAt w w1 w2.heap.size w3.heap.size 0 0 from ⟨hc3.below hB1, hR1, (HK.out.trans (hb3.mono HK.out.size)).trans (hB1.mono (Nat.le_trans HK.out.size hb3.size)), HK.out.size, Nat.le_trans HK.out.size hb3.size, by omega⟩)
    clear hc3 hb3 HK hw1 hB1 hR1 hz3
    generalize w2.heap.size = b at *
    generalize w3.heap.size = c at *
    go_wp2_with fail
    go_loopw [21] (fun i wr => ∃ (j : Nat) (bal : Int) (rest : Nat), j ≤ n ∧ i = .int .i64 j ∧ BothAt w wr b c bal rest ∧ 0 ≤ bal ∧ bal ≤ 1099511627776 ∧ rest < 1023 * 2 ^ 52) (fun i _ => n - (intOf i).toNat)
    case atStart => exact ⟨0, 0, 0, by omega, rfl, HS0.out, by omega, by omega, by decide⟩
    case round =>
      obtain ⟨j, bal, rest, hj, rfl, hO, hb0, hb2, hrs⟩ := hrel
      by_cases hlt : j < n
      · obtain ⟨a, rfl, ha0, ha1, ha2⟩ := (HA.out.1.below hO.old) j hlt
        have hok := HA.out.2 j hlt
        unfold Act7.ok at hok
        generalize (F j).kind = kd at *
        generalize (F j).num = nu at *
        generalize (F j).flo = fl at *
        have HO := Lib.hid hO
        have HOK := Lib.hid (And.intro hok hrs)
        clear hO hok hrs
        go_upto_region 9 with fail
        generalize hw4 : wr.alloc (Obj.cells #[Value.int IntKind.i64 kd, Value.int IntKind.i64 nu, Value.float FloatKind.f64 fl] 41) = w4
        have HS := Lib.hid (show HalfAt w w4 b c bal rest bal rest wr.heap.size kd nu fl by
          subst hw4
          exact ⟨Blk.alloc HO.out.led _, Blk.alloc HO.out.ref _, HO.out.old.trans ((Below.refl _ _).alloc HO.out.old.size _), HO.out.lo, HO.out.lo2, HO.out.ne, Blk.new wr _ _, Nat.ne_of_gt HO.out.led.lt, Nat.ne_of_gt HO.out.ref.lt⟩)
        clear hw4 ha0 ha1 ha2 HO
        generalize wr.heap.size = ab at *
        obtain ⟨c3, c4, c5⟩ := HS.out.cells
        go_upto_block 2 with fail
        go_cut [7, 8] (fun s7 s8 wx => ∃ (g bal2 : Int) (rest2 : Nat), s7 = .int .i64 g ∧ s8 = .int .i64 g ∧ HalfAt w wx b c bal2 rest2 bal2 rest2 ab kd nu fl ∧ 0 ≤ bal2 ∧ bal2 ≤ 1099511627776 ∧ rest2 < 1023 * 2 ^ 52)
        case first =>
          by_cases kz : kd = 0
          · subst kz
            have X1 := Lib.hid (fun W H => led_deposit b bal rest nu W H hb0 hb2)
            have X3 := Lib.hid (fun W H => ref_deposit c bal rest nu W H hb0 hb2)
            obtain ⟨m0, m1⟩ := depo_facts bal nu hb0 hb2
            generalize depo bal nu = m at *
            go_upto_region 12 with fail
            replace HS := Lib.hid (HS.out.below (below_drew _))
            go_region_held3 (fun w' => w'.cell? ⟨ab, 0, none⟩ = some (.int .i64 0) ∧ w'.cell? ⟨ab, 1, none⟩ = some (.int .i64 nu) ∧ w'.cell? ⟨ab, 2, none⟩ = some (.float .f64 fl)) (exact HS.out.cells) (first
              | (go_at_call 14; refine (X1.out _ HS.out.led).mono ?_; rintro e w5 ⟨rfl, hc5, hb5⟩; replace HS := Lib.hid (HS.out.butb hb5 hc5); clear hb5 hc5)
              | (go_at_call 15; refine (X3.out _ HS.out.ref).mono ?_; rintro e w5 ⟨rfl, hc5, hb5⟩; replace HS := Lib.hid (HS.out.butc hb5 hc5); clear hb5 hc5))
            go_wp2
            go_meet
            exact ⟨m, bal + m, rest, rfl, rfl, HS.out, by omega, by omega, HOK.out.2⟩
          · by_cases k1 : kd = 1
            · subst k1
              clear kz
              obtain ⟨m, r2, m0, m1, hr2, hE, hE2⟩ := earn_both fl rest HOK.out.1.2 HOK.out.2 bal hb0 hb2
              have X1 := Lib.hid (And.intro hE hr2)
              have X3 := Lib.hid hE2
              clear hE hr2 hE2
              go_upto_region 14 with fail
              replace HS := Lib.hid (HS.out.below (below_drew _))
              go_region_held3 (fun w' => w'.cell? ⟨ab, 0, none⟩ = some (.int .i64 1) ∧ w'.cell? ⟨ab, 1, none⟩ = some (.int .i64 nu) ∧ w'.cell? ⟨ab, 2, none⟩ = some (.float .f64 fl)) (exact HS.out.cells) (first
                | (go_at_call 10; refine (X1.out.1 _ _ HS.out.led).mono ?_; rintro e w5 ⟨rfl, hc5, hb5⟩; replace HS := Lib.hid (HS.out.butb hb5 hc5); clear hb5 hc5)
                | (go_at_call 16; refine (X3.out _ _ HS.out.ref).mono ?_; rintro e w5 ⟨rfl, hc5, hb5⟩; replace HS := Lib.hid (HS.out.butc hb5 hc5); clear hb5 hc5))
              go_wp2
              go_meet
              exact ⟨m, bal + m, r2, rfl, rfl, HS.out, by omega, by omega, X1.out.2⟩
            · by_cases k2 : kd = 2
              · subst k2
                clear kz k1
                have X1 := Lib.hid (fun W H => led_spend b bal rest nu W H hb0 hb2)
                have X2 := spend_facts bal nu
                have X4 : spends bal nu = (decide (0 ≤ nu) && decide (nu ≤ bal)) := rfl
                clear X2
                go_upto_region 16 with fail
                refine region_all (C := Below w4.heap.size w4) (by kernel_rfl) (by kernel_rfl) (below_drew _) ?_
                have HC0 : Below w4.heap.size w4 w4 := Below.refl _ _
                clear c3 c4 c5
                by_cases hn0 : 0 ≤ nu
                · by_cases hn1 : nu ≤ bal
                  · have hs : spends bal nu = true := by simp [spends, hn0, hn1]
                    rw [hs] at X1
                    clear hs X4
                    open BigFrame in
                    repeat (first | go_big_quiet_skip | (go_big_quiet_want; first | (apply quiet_one (hC := HC0); exact rfl; exact Nat.le_of_ble_eq_true rfl; (focus (intro w' hw'; have HT := HS.out.below hw'; obtain ⟨c3, c4, c5⟩ := HT.cells; obtain ⟨q0, q1, l0, l1⟩ := HT.ref.cells; go_big_quiet_op; with_reducible exact rfl)); go_big_quiet_on) | (go_big_quiet_op; apply Exists.intro; refine ⟨fun w' hw' => ?_, ?_⟩; (focus (have HT := HS.out.below hw'; obtain ⟨c3, c4, c5⟩ := HT.cells; obtain ⟨q0, q1, l0, l1⟩ := HT.ref.cells; fail)); go_big_quiet_on)))
                    refine wpQuiet_nil ?_
                    intro w6 hb6
                    replace HS := Lib.hid (HS.out.below hb6)
                    obtain ⟨c3, c4, c5⟩ := HS.out.cells
                    go_upto_region 20 with (go_at_call 17; refine (X1.out _ HS.out.led).mono ?_; rintro e w5 ⟨rfl, hc5, hb5⟩; replace HS := Lib.hid (HS.out.butb hb5 hc5); clear hb5 hc5; obtain ⟨c3, c4, c5⟩ := HS.out.cells)
                    clear c3 c4 c5
                    refine region_tail (C := Below w5.heap.size w5) 9 (by kernel_rfl) (by kernel_rfl) (below_drew _) ?_
                    simp only [List.take_succ_cons, List.take_zero, List.drop_succ_cons, List.drop_zero]
                    have HC0 : Below w5.heap.size w5 w5 := Below.refl _ _
                    open BigFrame in
                    repeat (first | go_big_quiet_skip | (go_big_quiet_want; first | (apply quiet_one (hC := HC0); exact rfl; exact Nat.le_of_ble_eq_true rfl; (focus (intro w' hw'; have HT := HS.out.below hw'; obtain ⟨c3, c4, c5⟩ := HT.cells; obtain ⟨q0, q1, l0, l1⟩ := HT.ref.cells; go_big_quiet_op; with_reducible exact rfl)); go_big_quiet_on) | (go_big_quiet_op; apply Exists.intro; refine ⟨fun w' hw' => ?_, ?_⟩; (focus (have HT := HS.out.below hw'; obtain ⟨c3, c4, c5⟩ := HT.cells; obtain ⟨q0, q1, l0, l1⟩ := HT.ref.cells; fail)); go_big_quiet_on)))
                    refine wpQuiet_nil ?_
                    intro w7 hb7
                    replace HS := Lib.hid (HS.out.below hb7)
                    obtain ⟨q0, q1, l0, l1⟩ := HS.out.ref.cells
                    go_wp2
                    go_meet
                    exact ⟨0, bal - nu, rest, rfl, rfl, HS.out.butc ((But.refl _ _).set_ 0 _) (Blk.set_ HS.out.ref 0 _), by omega, by omega, HOK.out.2⟩
                  · have hs : spends bal nu = false := by simp [spends, hn1]
                    rw [hs] at X1
                    clear hs X4
                    open BigFrame in
                    repeat (first | go_big_quiet_skip | (go_big_quiet_want; first | (apply quiet_one (hC := HC0); exact rfl; exact Nat.le_of_ble_eq_true rfl; (focus (intro w' hw'; have HT := HS.out.below hw'; obtain ⟨c3, c4, c5⟩ := HT.cells; obtain ⟨q0, q1, l0, l1⟩ := HT.ref.cells; go_big_quiet_op; with_reducible exact rfl)); go_big_quiet_on) | (go_big_quiet_op; apply Exists.intro; refine ⟨fun w' hw' => ?_, ?_⟩; (focus (have HT := HS.out.below hw'; obtain ⟨c3, c4, c5⟩ := HT.cells; obtain ⟨q0, q1, l0, l1⟩ := HT.ref.cells; fail)); go_big_quiet_on)))
                    refine wpQuiet_nil ?_
                    intro w6 hb6
                    replace HS := Lib.hid (HS.out.below hb6)
                    obtain ⟨c3, c4, c5⟩ := HS.out.cells
                    go_wp2_with (go_at_call 17; refine (X1.out _ HS.out.led).mono ?_; rintro e w5 ⟨rfl, hc5, hb5⟩; replace HS := Lib.hid (HS.out.butb hb5 hc5); clear hb5 hc5; obtain ⟨c3, c4, c5⟩ := HS.out.cells)
                    go_meet
                    exact ⟨0, bal, rest, rfl, rfl, HS.out, by omega, by omega, HOK.out.2⟩
                · have hs : spends bal nu = false := by simp [spends, hn0]
                  rw [hs] at X1
                  clear hs X4
                  open BigFrame in
                  repeat (first | go_big_quiet_skip | (go_big_quiet_want; first | (apply quiet_one (hC := HC0); exact rfl; exact Nat.le_of_ble_eq_true rfl; (focus (intro w' hw'; have HT := HS.out.below hw'; obtain ⟨c3, c4, c5⟩ := HT.cells; obtain ⟨q0, q1, l0, l1⟩ := HT.ref.cells; go_big_quiet_op; with_reducible exact rfl)); go_big_quiet_on) | (go_big_quiet_op; apply Exists.intro; refine ⟨fun w' hw' => ?_, ?_⟩; (focus (have HT := HS.out.below hw'; obtain ⟨c3, c4, c5⟩ := HT.cells; obtain ⟨q0, q1, l0, l1⟩ := HT.ref.cells; fail)); go_big_quiet_on)))
                  refine wpQuiet_nil ?_
                  intro w6 hb6
                  replace HS := Lib.hid (HS.out.below hb6)
                  obtain ⟨c3, c4, c5⟩ := HS.out.cells
                  go_wp2_with (go_at_call 17; refine (X1.out _ HS.out.led).mono ?_; rintro e w5 ⟨rfl, hc5, hb5⟩; replace HS := Lib.hid (HS.out.butb hb5 hc5); clear hb5 hc5; obtain ⟨c3, c4, c5⟩ := HS.out.cells)
                  go_meet
                  exact ⟨0, bal, rest, rfl, rfl, HS.out, by omega, by omega, HOK.out.2⟩
              · by_cases k3 : kd = 3
                · subst k3
                  clear kz k1 k2
                  have X1 := Lib.hid (fun W H => led_take b bal rest nu W H hb0 hb2)
                  have X3 := Lib.hid (fun W H => ref_take c bal rest nu W H hb0 hb2)
                  obtain ⟨m0, m1⟩ := takes_facts bal nu hb0
                  generalize takes bal nu = m at *
                  go_upto_region 22 with fail
                  replace HS := Lib.hid (HS.out.below (below_drew _))
                  go_region_held3 (fun w' => w'.cell? ⟨ab, 0, none⟩ = some (.int .i64 3) ∧ w'.cell? ⟨ab, 1, none⟩ = some (.int .i64 nu) ∧ w'.cell? ⟨ab, 2, none⟩ = some (.float .f64 fl)) (exact HS.out.cells) (first
                    | (go_at_call 13; refine (X1.out _ HS.out.led).mono ?_; rintro e w5 ⟨rfl, hc5, hb5⟩; replace HS := Lib.hid (HS.out.butb hb5 hc5); clear hb5 hc5)
                    | (go_at_call 18; refine (X3.out _ HS.out.ref).mono ?_; rintro e w5 ⟨rfl, hc5, hb5⟩; replace HS := Lib.hid (HS.out.butc hb5 hc5); clear hb5 hc5))
                  go_wp2
                  go_meet
                  exact ⟨m, bal - m, rest, rfl, rfl, HS.out, by omega, by omega, HOK.out.2⟩
                · by_cases k4 : kd = 4
                  · subst k4
                    clear kz k1 k2 k3
                    have X1 := Lib.hid (fun W H => led_drop b bal rest W H)
                    go_upto_region 24 with fail
                    replace HS := Lib.hid (HS.out.below (below_drew _))
                    go_region_held3 (fun w' => w'.cell? ⟨c, 0, none⟩ = some (.int .i64 bal)) (exact HS.out.ref.cells.1) (first
                      | (go_at_call 19; refine (X1.out _ HS.out.led).mono ?_; rintro e w5 ⟨rfl, hc5, hb5⟩; replace HS := Lib.hid (HS.out.butb hb5 hc5); clear hb5 hc5))
                    obtain ⟨q0, q1, l0, l1⟩ := HS.out.ref.cells
                    go_wp2
                    go_meet
                    exact ⟨bal, 0, 0, rfl, rfl, HS.out.butc (((But.refl _ _).set_ 0 _).set_ 1 _) (Blk.set_ (Blk.set_ HS.out.ref 0 _) 1 _), by omega, by omega, by decide⟩
                  · have z0 : (kd == 0) = false := by simpa using kz
                    have z1 : (kd == 1) = false := by simpa using k1
                    have z2 : (kd == 2) = false := by simpa using k2
                    have z3 : (kd == 3) = false := by simpa using k3
                    have z4 : (kd == 4) = false := by simpa using k4
                    clear kz k1 k2 k3 k4
                    go_wp2
                    go_meet
                    exact ⟨0, bal, rest, rfl, rfl, HS.out, by omega, by omega, HOK.out.2⟩
        case rest =>
          clear HS c3 c4 c5
          obtain ⟨g, bal2, rest2, rfl, rfl, hm, g0, g1, g4⟩ := hcut
          obtain ⟨_, o1, _, _⟩ := rest_facts rest2 g4
          have HS := Lib.hid hm
          have HR := Lib.hid g4
          have X1 := Lib.hid (fun W H => led_balance b bal2 rest2 W H)
          have X2 := Lib.hid (fun W H => led_rest b bal2 rest2 W H)
          clear hm g4 HOK
          go_upto_region 26 with fail
          refine region_all (C := Below wc.heap.size wc) (by kernel_rfl) (by kernel_rfl) (below_drew _) ?_
          have HC0 : Below wc.heap.size wc wc := Below.refl _ _
          open BigFrame in
          repeat (first | go_big_quiet_skip | (go_big_quiet_want; first | (apply quiet_one (hC := HC0); exact rfl; exact Nat.le_of_ble_eq_true rfl; (focus (intro w' hw'; have HT := HS.out.below hw'; obtain ⟨q0, q1, l0, l1⟩ := HT.ref.cells; go_big_quiet_op; with_reducible exact rfl)); go_big_quiet_on) | (go_big_quiet_op; apply Exists.intro; refine ⟨fun w' hw' => ?_, ?_⟩; (focus (have HT := HS.out.below hw'; obtain ⟨q0, q1, l0, l1⟩ := HT.ref.cells; first | ((have X := X1.out _ (HS.out.below hw').led; with_reducible exact quiet_call_same hw' X)) | ((have X := X2.out _ (HS.out.below hw').led; with_reducible exact quiet_call_same hw' X)))); go_big_quiet_on)))
          refine wpQuiet_nil ?_
          intro w6 hb6
          replace HS := Lib.hid (HS.out.below hb6)
          go_wp2
          go_roundw
          case rel => exact ⟨j + 1, bal2, rest2, by omega, by go_num, ⟨HS.out.led, HS.out.ref, HS.out.old, HS.out.lo, HS.out.lo2, HS.out.ne⟩, by omega, by omega, HR.out⟩
          case measure => simp [intOf]; omega
      · obtain rfl : j = n := by omega
        have HO := Lib.hid hO
        clear hO hrs
        go_wp2
        go_ret
        exact ⟨rfl, HO.out.old⟩
end Go.Proofs.Ytcelngblkjbnfaa
