/-
  amblerlaw07.CreditKeeps answers true: the walk.
-/
import Derived.Test.YtcelngblkjbnfaaActs7
import Derived.Test.YtcelngblkjbnfaaWhole
namespace Go.Proofs.Ytcelngblkjbnfaa
open Go.RowKit

/-- What the walk knows of a world: the ledger, and an act in a block. -/
structure KeepAt (w0 w : World) (b : Nat) (bal : Int) (rest : Nat) : Prop where
  led : LedAt w b bal rest
  old : Below w0.heap.size w0 w
  lo : w0.heap.size ≤ b
structure KeepMid (w0 w : World) (b : Nat) (bal : Int) (rest : Nat) (ab : Nat) (kd n : Int) (f : Nat) : Prop where
  led : LedAt w b bal rest
  old : Below w0.heap.size w0 w
  lo : w0.heap.size ≤ b
  act : Blk w ab 41 #[.int .i64 kd, .int .i64 n, .float .f64 f]
  ab1 : ab ≠ b
section
variable {w0 w w' : World} {b ab : Nat} {bal bal2 kd n : Int} {rest rest2 f : Nat}
theorem KeepMid.cells (H : KeepMid w0 w b bal rest ab kd n f) : w.cell? ⟨ab, 0, none⟩ = some (.int .i64 kd) ∧ w.cell? ⟨ab, 1, none⟩ = some (.int .i64 n) ∧ w.cell? ⟨ab, 2, none⟩ = some (.float .f64 f) :=
  ⟨Blk.cell H.act 0, Blk.cell H.act 1, Blk.cell H.act 2⟩
theorem KeepMid.but (H : KeepMid w0 w b bal rest ab kd n f) (hb : But b w w') (hL : LedAt w' b bal2 rest2) : KeepMid w0 w' b bal2 rest2 ab kd n f :=
  ⟨hL, H.old.trans (hb.below H.lo H.old.size), H.lo, Blk.but H.act hb H.ab1, H.ab1⟩
end

theorem depo_facts (bal n : Int) (h0 : 0 ≤ bal) (h1 : bal ≤ 1099511627776) : 0 ≤ depo bal n ∧ bal + depo bal n ≤ 1099511627776 := by
  unfold depo
  omega
theorem takes_facts (bal n : Int) (h0 : 0 ≤ bal) : 0 ≤ takes bal n ∧ takes bal n ≤ bal := by
  unfold takes
  omega
theorem spend_facts (bal n : Int) (h : spends bal n = true) : 0 ≤ n ∧ n ≤ bal := by simpa [spends] using h

set_option maxHeartbeats 2000000 in
set_option maxRecDepth 100000 in
theorem keeps_walk (p : Option Addr) (n cap : Nat) (F : Nat → Act7) (w : World) (hA : ActsAt w p n F) (hF : ∀ i, i < n → (F i).ok) (hn : n ≤ maxLen) :
    Calls Try.prog 6 #[.slice p n cap] w fun e w' => e = .returned (.bool true) ∧ Below w.heap.size w w' := by
  have HA := Lib.hid (And.intro hA hF)
  clear hA hF
  have hst := store_f
  go_enter Try.func6, Try.ntmps6
  go_upto_region 3 with (go_at_call 7; refine (alive_yes _).mono ?_; rintro e w2 ⟨rfl, hb2⟩)
  have HK := Lib.hid hb2
  clear hb2
  by_cases h60 : 60 < n
  · have h60' : (60 : Int) < n := by omega
    clear h60
    go_wp2
    go_ret
    exact ⟨rfl, HK.out⟩
  · have h60' : (n : Int) ≤ 60 := by omega
    clear h60
    go_upto_region 6 with fail
    generalize hw1 : w2.alloc (Obj.cells #[Value.int IntKind.i64 0, Value.float FloatKind.f64 0] 30) = w1
    have HS0 := Lib.hid (show KeepAt w w1 w2.heap.size 0 0 by subst hw1; exact ⟨Blk.new w2 _ _, HK.out.trans ((Below.refl _ _).alloc HK.out.size _), HK.out.size⟩)
    clear HK hw1
    generalize w2.heap.size = b at *
    go_wp2_with fail
    go_loopw [4, 5, 17] (fun s4 s5 i wr => ∃ (j : Nat) (inn bal : Int) (rest : Nat), j ≤ n ∧ i = .int .i64 j ∧ s4 = .int .i64 inn ∧ s5 = .int .i64 (inn - bal) ∧ KeepAt w wr b bal rest ∧ 0 ≤ bal ∧ bal ≤ inn ∧ bal ≤ 1099511627776 ∧ inn ≤ (j : Int) * 1099511627776 ∧ rest < 1023 * 2 ^ 52) (fun _ _ i _ => n - (intOf i).toNat)
    case atStart => exact ⟨0, 0, 0, 0, by omega, rfl, rfl, rfl, HS0.out, by omega, by omega, by omega, by omega, by decide⟩
    case round =>
      obtain ⟨j, inn, bal, rest, hj, rfl, rfl, rfl, hO, hb0, hb1, hb2, hin, hrs⟩ := hrel
      by_cases hlt : j < n
      · obtain ⟨a, rfl, ha0, ha1, ha2⟩ := (HA.out.1.below hO.old) j hlt
        have hok := HA.out.2 j hlt
        unfold Act7.ok at hok
        generalize (F j).kind = kd at *
        generalize (F j).num = nu at *
        generalize (F j).flo = fl at *
        have HO := Lib.hid hO
        have HOK := Lib.hid (And.intro hok hrs)
        clear hO hok hrs
        go_upto_region 10 with fail
        generalize hw4 : wr.alloc (Obj.cells #[Value.int IntKind.i64 kd, Value.int IntKind.i64 nu, Value.float FloatKind.f64 fl] 41) = w4
        have HS := Lib.hid (show KeepMid w w4 b bal rest wr.heap.size kd nu fl by
          subst hw4
          exact ⟨Blk.alloc HO.out.led _, HO.out.old.trans ((Below.refl _ _).alloc HO.out.old.size _), HO.out.lo, Blk.new wr _ _, Nat.ne_of_gt HO.out.led.lt⟩)
        clear hw4 ha0 ha1 ha2 HO
        generalize wr.heap.size = ab at *
        obtain ⟨c3, c4, c5⟩ := HS.out.cells
        have hin60 : inn ≤ 65970697666560 := by omega
        go_upto_block 2 with fail
        go_cut [4, 5] (fun s4 s5 wx => ∃ (inn2 bal2 : Int) (rest2 : Nat), s4 = .int .i64 inn2 ∧ s5 = .int .i64 (inn2 - bal2) ∧ KeepMid w wx b bal2 rest2 ab kd nu fl ∧ 0 ≤ bal2 ∧ bal2 ≤ inn2 ∧ bal2 ≤ 1099511627776 ∧ inn2 ≤ inn + 1099511627776 ∧ rest2 < 1023 * 2 ^ 52)
        case first =>
          by_cases kz : kd = 0
          · subst kz
            have X1 := Lib.hid (fun W H => led_deposit b bal rest nu W H hb0 hb2)
            obtain ⟨m0, m1⟩ := depo_facts bal nu hb0 hb2
            generalize depo bal nu = m at *
            go_wp2_with (go_at_call 14; refine (X1.out _ HS.out.led).mono ?_; rintro e w5 ⟨rfl, hL, hb⟩; replace HS := Lib.hid (HS.out.but hb hL); clear hb hL)
            go_meet
            exact ⟨inn + m, bal + m, rest, rfl, by congr 1; omega, HS.out, by omega, by omega, by omega, by omega, HOK.out.2⟩
          · by_cases k1 : kd = 1
            · subst k1
              clear kz
              obtain ⟨m, r2, m0, m1, hr2, hE, _⟩ := earn_both fl rest HOK.out.1.2 HOK.out.2 bal hb0 hb2
              have X1 := Lib.hid (And.intro hE hr2)
              clear hE hr2
              go_wp2_with (go_at_call 10; refine (X1.out.1 _ _ HS.out.led).mono ?_; rintro e w5 ⟨rfl, hL, hb⟩; replace HS := Lib.hid (HS.out.but hb hL); clear hb hL)
              go_meet
              exact ⟨inn + m, bal + m, r2, rfl, by congr 1; omega, HS.out, by omega, by omega, by omega, by omega, X1.out.2⟩
            · by_cases k2 : kd = 2
              · subst k2
                clear kz k1
                have X1 := Lib.hid (fun W H => led_spend b bal rest nu W H hb0 hb2)
                have X2 := spend_facts bal nu
                generalize spends bal nu = s at *
                cases s with
                | true =>
                  obtain ⟨m0, m1⟩ := X2 rfl
                  clear X2
                  go_wp2_with (go_at_call 17; refine (X1.out _ HS.out.led).mono ?_; rintro e w5 ⟨rfl, hL, hb⟩; replace HS := Lib.hid (HS.out.but hb hL); clear hb hL; obtain ⟨c3, c4, c5⟩ := HS.out.cells)
                  go_meet
                  exact ⟨inn, bal - nu, rest, rfl, by congr 1; omega, HS.out, by omega, by omega, by omega, by omega, HOK.out.2⟩
                | false =>
                  clear X2
                  go_wp2_with (go_at_call 17; refine (X1.out _ HS.out.led).mono ?_; rintro e w5 ⟨rfl, hL, hb⟩; replace HS := Lib.hid (HS.out.but hb hL); clear hb hL; obtain ⟨c3, c4, c5⟩ := HS.out.cells)
                  go_meet
                  exact ⟨inn, bal, rest, rfl, rfl, HS.out, by omega, by omega, by omega, by omega, HOK.out.2⟩
              · by_cases k3 : kd = 3
                · subst k3
                  clear kz k1 k2
                  have X1 := Lib.hid (fun W H => led_take b bal rest nu W H hb0 hb2)
                  obtain ⟨m0, m1⟩ := takes_facts bal nu hb0
                  generalize takes bal nu = m at *
                  go_wp2_with (go_at_call 13; refine (X1.out _ HS.out.led).mono ?_; rintro e w5 ⟨rfl, hL, hb⟩; replace HS := Lib.hid (HS.out.but hb hL); clear hb hL)
                  go_meet
                  exact ⟨inn, bal - m, rest, rfl, by congr 1; omega, HS.out, by omega, by omega, by omega, by omega, HOK.out.2⟩
                · by_cases k4 : kd = 4
                  · subst k4
                    clear kz k1 k2 k3
                    have X1 := Lib.hid (fun W H => led_drop b bal rest W H)
                    go_wp2_with (go_at_call 19; refine (X1.out _ HS.out.led).mono ?_; rintro e w5 ⟨rfl, hL, hb⟩; replace HS := Lib.hid (HS.out.but hb hL); clear hb hL)
                    go_meet
                    exact ⟨inn, 0, 0, rfl, by congr 1; omega, HS.out, by omega, by omega, by omega, by omega, by decide⟩
                  · have z0 : (kd == 0) = false := by simpa using kz
                    have z1 : (kd == 1) = false := by simpa using k1
                    have z2 : (kd == 2) = false := by simpa using k2
                    have z3 : (kd == 3) = false := by simpa using k3
                    have z4 : (kd == 4) = false := by simpa using k4
                    clear kz k1 k2 k3 k4
                    go_wp2
                    go_meet
                    exact ⟨inn, bal, rest, rfl, rfl, HS.out, by omega, by omega, by omega, by omega, HOK.out.2⟩
        case rest =>
          clear HS c3 c4 c5
          obtain ⟨inn2, bal2, rest2, rfl, rfl, hm, g0, g1, g2, g3, g4⟩ := hcut
          obtain ⟨_, _, o2, o3⟩ := rest_facts rest2 g4
          have HS := Lib.hid hm
          have HR := Lib.hid g4
          have X1 := Lib.hid (fun W H => led_balance b bal2 rest2 W H)
          have X2 := Lib.hid (fun W H => led_rest b bal2 rest2 W H)
          clear hm g4 HOK
          have hsub : inn2 - (inn2 - bal2) = bal2 := by omega
          go_wp2_with (first | (go_at_call 11; refine (X1.out _ HS.out.led).mono ?_; rintro e w5 ⟨rfl, rfl⟩) | (go_at_call 12; refine (X2.out _ HS.out.led).mono ?_; rintro e w5 ⟨rfl, rfl⟩))
          go_roundw
          case rel => exact ⟨j + 1, inn2, bal2, rest2, by omega, by go_num, rfl, rfl, ⟨HS.out.led, HS.out.old, HS.out.lo⟩, by omega, by omega, by omega, by omega, HR.out⟩
          case measure => simp [intOf]; omega
      · obtain rfl : j = n := by omega
        have HO := Lib.hid hO
        clear hO hrs
        go_wp2
        go_ret
        exact ⟨rfl, HO.out.old⟩
end Go.Proofs.Ytcelngblkjbnfaa
