/-
  amblerlaw23.CursorActs answers true: the walk.
-/
import Derived.Test.YtacdbgoffepaaaaDoorRef23
import Derived.Deep.RegionHeld3
namespace Go.Proofs.YtacdbgoffepaaaaDoor
open Go.RowKit

/-- What the walk knows of a world: both cursors, the errors, the act. -/
structure ActAt (ea : Nat → Addr) (w0 w : World) (b c : Nat) (h k : Int) (d : Bool) : Prop where
  cur : CurAt w b h k d
  ref : RefAt w c h k d
  old : Below w0.heap.size w0 w
  lo : w0.heap.size ≤ b
  lo2 : w0.heap.size ≤ c
  ne : b ≠ c
  hb : (0 ≤ h ∧ h < 18446744073709551616) ∧ 0 ≤ k ∧ k < 18446744073709551616
section
variable {ea : Nat → Addr} {w0 w w' : World} {b c ab : Nat} {h k h' k' : Int} {d d' : Bool} {kd ak av ah : Int}
theorem ActAt.below (H : ActAt ea w0 w b c h k d) (hb : Below w.heap.size w w') : ActAt ea w0 w' b c h k d :=
  ⟨H.cur.below hb, H.ref.below hb, H.old.trans (hb.mono H.old.size), H.lo, H.lo2, H.ne, H.hb⟩
/-- Half a step: the cursor has gone on, the document's not yet; and an act in a block. -/
structure MidAt (ea : Nat → Addr) (w0 w : World) (b c : Nat) (h k : Int) (d : Bool) (h' k' : Int) (d' : Bool) (ab : Nat) (kd ak av ah : Int) : Prop where
  cur : CurAt w b h k d
  ref : RefAt w c h' k' d'
  old : Below w0.heap.size w0 w
  lo : w0.heap.size ≤ b
  lo2 : w0.heap.size ≤ c
  ne : b ≠ c
  act : Blk w ab 59 #[.int .i64 kd, .int .u64 ak, .int .u64 av, .int .u64 ah]
  ab1 : ab ≠ b
  ab2 : ab ≠ c
theorem MidAt.below (H : MidAt ea w0 w b c h k d h' k' d' ab kd ak av ah) (hb : Below w.heap.size w w') : MidAt ea w0 w' b c h k d h' k' d' ab kd ak av ah :=
  ⟨H.cur.below hb, H.ref.below hb, H.old.trans (hb.mono H.old.size), H.lo, H.lo2, H.ne, H.act.below hb, H.ab1, H.ab2⟩
theorem MidAt.butb {h2 k2 : Int} {d2 : Bool} (H : MidAt ea w0 w b c h k d h' k' d' ab kd ak av ah) (hb : But b w w') (hc : CurAt w' b h2 k2 d2) : MidAt ea w0 w' b c h2 k2 d2 h' k' d' ab kd ak av ah :=
  ⟨hc, H.ref.but hb (Ne.symm H.ne), H.old.trans (hb.below H.lo H.old.size), H.lo, H.lo2, H.ne, Blk.but H.act hb H.ab1, H.ab1, H.ab2⟩
theorem CurAt.but {w w' : World} {b c : Nat} {h k : Int} {d : Bool} (H : CurAt w b h k d) (hb : But c w w') (hne : b ≠ c) : CurAt w' b h k d := Blk.but H hb hne
theorem MidAt.butc {h2 k2 : Int} {d2 : Bool} (H : MidAt ea w0 w b c h k d h' k' d' ab kd ak av ah) (hb : But c w w') (hc : RefAt w' c h2 k2 d2) : MidAt ea w0 w' b c h k d h2 k2 d2 ab kd ak av ah :=
  ⟨H.cur.but hb H.ne, hc, H.old.trans (hb.below H.lo2 H.old.size), H.lo, H.lo2, H.ne, Blk.but H.act hb H.ab2, H.ab1, H.ab2⟩
theorem MidAt.cells (H : MidAt ea w0 w b c h k d h' k' d' ab kd ak av ah) : w.cell? ⟨ab, 0, none⟩ = some (.int .i64 kd) ∧ w.cell? ⟨ab, 1, none⟩ = some (.int .u64 ak) ∧ w.cell? ⟨ab, 2, none⟩ = some (.int .u64 av) ∧ w.cell? ⟨ab, 3, none⟩ = some (.int .u64 ah) :=
  ⟨Blk.cell H.act 0, Blk.cell H.act 1, Blk.cell H.act 2, Blk.cell H.act 3⟩
end
theorem num_state (ea : Nat → Addr) (w : World) (hE : ErrsAt w ea) :
    Calls Tryd.prog 19 #[.iface 148 (.pointer (some (ea 4)))] w fun e w' => e = .returned (.int .i64 5) ∧ Below w.heap.size w w' := by
  have := num_err ea 4 (by decide) w hE
  simpa using this

set_option maxHeartbeats 2000000 in
set_option maxRecDepth 100000 in
theorem acts_walk (p : Option Addr) (n cap : Nat) (F : Nat → Act4) (w : World) (ea : Nat → Addr) (hE : ErrsAt w ea) (hA : ActsAt w p n F) (hF : ∀ i, i < n → (F i).ok) (hn : n ≤ maxLen) :
    Calls Tryd.prog 8 #[.slice p n cap] w fun e w' => e = .returned (.bool true) ∧ Below w.heap.size w w' := by
  have HA := Lib.hid (And.intro hE (And.intro hA hF))
  clear hE hA hF
  go_enter Tryd.func8, Tryd.ntmps8
  go_upto_region 3 with (go_at_call 20; refine (alive23 _).mono ?_; rintro e w2 ⟨rfl, hb2⟩)
  have HK := Lib.hid hb2
  clear hb2
  by_cases h60 : 60 < n
  · have h60' : (60 : Int) < n := by omega
    clear h60
    go_wp2
    go_ret
    exact ⟨rfl, HK.out⟩
  · have h60' : (n : Int) ≤ 60 := by omega
    clear h60
    go_upto_region 6 with (go_at_call 21; refine (cur_new _).mono ?_; rintro e w3 ⟨rfl, hc3, hb3⟩)
    generalize hw1 : w3.alloc (Obj.cells #[Value.bool false, Value.bool false, Value.int IntKind.u64 0, Value.int IntKind.u64 0] 64) = w1
    have hB1 : Below w3.heap.size w3 w1 := by subst hw1; exact (Below.refl _ _).alloc (Nat.le_refl _) _
    have hR1 : RefAt w1 w3.heap.size 0 0 false := by
      subst hw1
      exact ⟨false, 0, 0, Blk.new w3 _ _, by decide, by decide, (fun x => by cases x), (fun _ _ => ⟨rfl, rfl⟩), (fun _ x => by cases x)⟩
    have HS0 := Lib.hid (show ActAt ea w w1 w2.heap.size w3.heap.size 0 0 false from ⟨hc3.below hB1, hR1, (HK.out.trans (hb3.mono HK.out.size)).trans (hB1.mono (Nat.le_trans HK.out.size hb3.size)), HK.out.size, Nat.le_trans HK.out.size hb3.size, Nat.ne_of_lt hc3.lt, by decide⟩)
    clear hc3 hb3 HK hw1 hB1 hR1
    generalize w2.heap.size = b at *
    generalize w3.heap.size = c at *
    go_wp2_with fail
    go_loopw [21] (fun i wr => ∃ (j : Nat) (h k : Int) (d : Bool), j ≤ n ∧ i = .int .i64 j ∧ ActAt ea w wr b c h k d) (fun i _ => n - (intOf i).toNat)
    case atStart => exact ⟨0, 0, 0, false, by omega, rfl, HS0.out⟩
    case round =>
      obtain ⟨j, h, k, d, hj, rfl, hO⟩ := hrel
      by_cases hlt : j < n
      · obtain ⟨a, rfl, ha0, ha1, ha2, ha3⟩ := (HA.out.2.1.below hO.old) j hlt
        have hok := HA.out.2.2 j hlt
        unfold Act4.ok at hok
        generalize (F j).kind = kd at *
        generalize (F j).key = ak at *
        generalize (F j).val = av at *
        generalize (F j).hash = ah at *
        have HO := Lib.hid hO
        have HOK := Lib.hid hok
        clear hO hok
        go_upto_region 9 with fail
        generalize hw4 : wr.alloc (Obj.cells #[Value.int IntKind.i64 kd, Value.int IntKind.u64 ak, Value.int IntKind.u64 av, Value.int IntKind.u64 ah] 59) = w4
        have hB4 : Below wr.heap.size wr w4 := by subst hw4; exact (Below.refl _ _).alloc (Nat.le_refl _) _
        have hE4 : Blk w4 wr.heap.size 59 #[.int .i64 kd, .int .u64 ak, .int .u64 av, .int .u64 ah] := by subst hw4; exact Blk.new wr _ _
        have HS := Lib.hid (show MidAt ea w w4 b c h k d h k d wr.heap.size kd ak av ah from ⟨HO.out.cur.below hB4, HO.out.ref.below hB4, HO.out.old.trans (hB4.mono HO.out.old.size), HO.out.lo, HO.out.lo2, HO.out.ne, hE4, Nat.ne_of_gt HO.out.cur.lt, Nat.ne_of_gt HO.out.ref.lt⟩)
        have HBD := Lib.hid HO.out.hb
        clear hw4 hB4 hE4 ha0 ha1 ha2 ha3 HO
        generalize wr.heap.size = ab at *
        obtain ⟨c3, c4, c5, c6⟩ := HS.out.cells
        go_upto_block 2 with fail
        go_cut [27] (fun s27 wx => ∃ (h' k' : Int) (d' : Bool), MidAt ea w wx b c h' k' d' h' k' d' ab kd ak av ah ∧ (0 ≤ h' ∧ h' < 18446744073709551616) ∧ 0 ≤ k' ∧ k' < 18446744073709551616)
        case first =>
          by_cases kz : kd = 0
          · subst kz
            by_cases hL : (d || lessB ah ak h k) = true
            · have X1 := Lib.hid (fun W H hE => cur_pass_no b h k d ak av ah (ea 4) W H hE hL)
              have X2 := Lib.hid (fun W hE => num_state ea W hE)
              have X3 := Lib.hid (fun W H => ref_pass_no c h k d ak av ah W H HOK.out.2.2 ⟨HOK.out.1, HOK.out.2.1⟩ hL)
              clear hL
              go_upto_region 11 with fail
              replace HS := Lib.hid (HS.out.below (below_drew _))
              go_region_held3 (fun w' => w'.cell? ⟨ab, 0, none⟩ = some (.int .i64 0) ∧ w'.cell? ⟨ab, 1, none⟩ = some (.int .u64 ak) ∧ w'.cell? ⟨ab, 2, none⟩ = some (.int .u64 av) ∧ w'.cell? ⟨ab, 3, none⟩ = some (.int .u64 ah)) (exact HS.out.cells) (first
                | (go_at_call 24; refine (X1.out _ HS.out.cur ((HA.out.1.below HS.out.old (Nat.le_refl _)).one 4 (by decide))).mono ?_; rintro e w5 ⟨rfl, hb5⟩; replace HS := Lib.hid (HS.out.below hb5); clear hb5)
                | (go_at_call 19; refine (X2.out _ (HA.out.1.below HS.out.old (Nat.le_refl _))).mono ?_; rintro e w5 ⟨rfl, hb5⟩; replace HS := Lib.hid (HS.out.below hb5); clear hb5)
                | (go_at_call 35; refine (X3.out _ HS.out.ref).mono ?_; rintro e w5 ⟨rfl, hb5⟩; replace HS := Lib.hid (HS.out.below hb5); clear hb5))
              go_wp2
              go_meet
              exact ⟨h, k, d, HS.out, HBD.out⟩
            · have hd : d = false := by cases d; rfl; simp at hL
              subst hd
              have hL2 : lessB ah ak h k = false := by simpa using hL
              clear hL
              have X1 := Lib.hid (fun W H => cur_pass_yes b h k ak av ah W H HOK.out.1 HOK.out.2.2.1 hL2)
              have X3 := Lib.hid (fun W H => ref_pass_yes c h k ak av ah W H HOK.out.2.2 ⟨HOK.out.1, HOK.out.2.1⟩ hL2)
              have hbn := Lib.hid (after_bounds ah ak HOK.out.2.2.1 HOK.out.2.2.2 HOK.out.1 HOK.out.2.1)
              clear hL2
              generalize afterH ak ah = nh at *
              generalize afterK ak = nk at *
              generalize (!afterB ak ah) = nd at *
              go_upto_region 11 with fail
              replace HS := Lib.hid (HS.out.below (below_drew _))
              go_region_held3 (fun w' => w'.cell? ⟨ab, 0, none⟩ = some (.int .i64 0) ∧ w'.cell? ⟨ab, 1, none⟩ = some (.int .u64 ak) ∧ w'.cell? ⟨ab, 2, none⟩ = some (.int .u64 av) ∧ w'.cell? ⟨ab, 3, none⟩ = some (.int .u64 ah)) (exact HS.out.cells) (first
                | (go_at_call 24; refine (X1.out _ HS.out.cur).mono ?_; rintro e w5 ⟨rfl, hc5, hb5⟩; replace HS := Lib.hid (HS.out.butb hb5 hc5); clear hb5 hc5)
                | (go_at_call 19; refine (num_nil _).mono ?_; rintro e w5 ⟨rfl, hb5⟩; replace HS := Lib.hid (HS.out.below hb5); clear hb5)
                | (go_at_call 35; refine (X3.out _ HS.out.ref).mono ?_; rintro e w5 ⟨rfl, hc5, hb5⟩; replace HS := Lib.hid (HS.out.butc hb5 hc5); clear hb5 hc5))
              go_wp2
              go_meet
              exact ⟨nh, nk, nd, HS.out, hbn.out⟩
          · by_cases k1 : kd = 1
            · subst k1
              clear kz
              by_cases hL : (d || decide (ah < h)) = true
              · have X1 := Lib.hid (fun W H hE => cur_skip_no b h k d ah (ea 4) W H hE hL)
                have X2 := Lib.hid (fun W hE => num_state ea W hE)
                have X3 := Lib.hid (fun W H => ref_skip_no c h k d ah W H hL)
                clear hL
                go_upto_region 14 with fail
                replace HS := Lib.hid (HS.out.below (below_drew _))
                go_region_held3 (fun w' => w'.cell? ⟨ab, 0, none⟩ = some (.int .i64 1) ∧ w'.cell? ⟨ab, 1, none⟩ = some (.int .u64 ak) ∧ w'.cell? ⟨ab, 2, none⟩ = some (.int .u64 av) ∧ w'.cell? ⟨ab, 3, none⟩ = some (.int .u64 ah)) (exact HS.out.cells) (first
                  | (go_at_call 32; refine (X1.out _ HS.out.cur ((HA.out.1.below HS.out.old (Nat.le_refl _)).one 4 (by decide))).mono ?_; rintro e w5 ⟨rfl, rfl⟩)
                  | (go_at_call 19; refine (X2.out _ (HA.out.1.below HS.out.old (Nat.le_refl _))).mono ?_; rintro e w5 ⟨rfl, hb5⟩; replace HS := Lib.hid (HS.out.below hb5); clear hb5)
                  | (go_at_call 36; refine (X3.out _ HS.out.ref).mono ?_; rintro e w5 ⟨rfl, hb5⟩; replace HS := Lib.hid (HS.out.below hb5); clear hb5))
                go_wp2
                go_meet
                exact ⟨h, k, d, HS.out, HBD.out⟩
              · have hd : d = false := by cases d; rfl; simp at hL
                subst hd
                have hL2 : decide (ah < h) = false := by simpa using hL
                clear hL
                have X1 := Lib.hid (fun W H => cur_skip_yes b h k ah W H HOK.out.2.2.1 hL2)
                have X3 := Lib.hid (fun W H => ref_skip_yes c h k ah W H HOK.out.2.2 hL2)
                have hbn := Lib.hid (after_bounds ah 18446744073709551615 HOK.out.2.2.1 HOK.out.2.2.2 (by decide) (by decide))
                clear hL2
                generalize afterH 18446744073709551615 ah = nh at *
                generalize afterK 18446744073709551615 = nk at *
                generalize (!afterB 18446744073709551615 ah) = nd at *
                go_upto_region 14 with fail
                replace HS := Lib.hid (HS.out.below (below_drew _))
                go_region_held3 (fun w' => w'.cell? ⟨ab, 0, none⟩ = some (.int .i64 1) ∧ w'.cell? ⟨ab, 1, none⟩ = some (.int .u64 ak) ∧ w'.cell? ⟨ab, 2, none⟩ = some (.int .u64 av) ∧ w'.cell? ⟨ab, 3, none⟩ = some (.int .u64 ah)) (exact HS.out.cells) (first
                  | (go_at_call 32; refine (X1.out _ HS.out.cur).mono ?_; rintro e w5 ⟨rfl, hc5, hb5⟩; replace HS := Lib.hid (HS.out.butb hb5 hc5); clear hb5 hc5)
                  | (go_at_call 19; refine (num_nil _).mono ?_; rintro e w5 ⟨rfl, hb5⟩; replace HS := Lib.hid (HS.out.below hb5); clear hb5)
                  | (go_at_call 36; refine (X3.out _ HS.out.ref).mono ?_; rintro e w5 ⟨rfl, hc5, hb5⟩; replace HS := Lib.hid (HS.out.butc hb5 hc5); clear hb5 hc5))
                go_wp2
                go_meet
                exact ⟨nh, nk, nd, HS.out, hbn.out⟩
            · have kz' : (kd == 0) = false := by simpa using kz
              have k1' : (kd == 1) = false := by simpa using k1
              clear kz k1
              by_cases k2 : kd = 2
              · subst k2
                have X1 := Lib.hid (fun W H => cur_end b h k d W H)
                go_upto_region 18 with ((go_at_call 33; refine (X1.out _ HS.out.cur).mono ?_; rintro e w5 ⟨rfl, hc5, hb5⟩; replace HS := Lib.hid (HS.out.butb hb5 hc5); clear hb5 hc5))
                have hr := HS.out.ref
                obtain ⟨s, H, K, hB, hH, hK, _⟩ := hr
                obtain ⟨q0, q1, q2, q3⟩ := refCells hB
                have f1 : w5.frozen? ⟨c, 1, none⟩ = false := Blk.free hB 1
                have HR := Lib.hid (And.intro hB (And.intro hH hK))
                clear hB hH hK
                go_wp2
                go_meet
                exact ⟨0, 0, true, HS.out.butc ((But.refl _ _).set_ 1 _) ⟨s, H, K, Blk.set_ HR.out.1 1 _, HR.out.2.1, HR.out.2.2, (fun _ => ⟨rfl, rfl⟩), (fun x => by cases x), (fun x => by cases x)⟩, by decide⟩
              · have k2' : (kd == 2) = false := by simpa using k2
                clear k2
                go_wp2
                go_meet
                exact ⟨h, k, d, HS.out, HBD.out⟩
        case rest =>
          clear HS c3 c4 c5 c6
          obtain ⟨h', k', d', hm, hb⟩ := hcut
          have HS := Lib.hid hm
          have HBN := Lib.hid hb
          clear hm hb HBD
          have X1 := Lib.hid (fun W H => cur_at b h' k' d' W H)
          have X2 := Lib.hid (fun W H => ref_at c h' k' d' W H)
          have X3 := Lib.hid (fun W H => cur_done b h' k' d' W H)
          have X4 := Lib.hid (fun W H => cur_behind b h' k' d' ak av ah W H)
          have X5 := Lib.hid (fun W H => ref_behind c h' k' d' ak av ah W H HOK.out.2.2 ⟨HOK.out.1, HOK.out.2.1⟩)
          obtain ⟨r, hr⟩ : ∃ r, (d' || lessB ah ak h' k') = r := ⟨_, rfl⟩
          rw [hr] at X4 X5
          clear hr
          go_upto_region 21 with (first
            | (go_at_call 37; refine (X1.out _ HS.out.cur).mono ?_; rintro e w5 ⟨rfl, hb5⟩; replace HS := Lib.hid (HS.out.below hb5); clear hb5)
            | (go_at_call 38; refine (X2.out _ HS.out.ref).mono ?_; rintro e w5 ⟨rfl, hb5⟩; replace HS := Lib.hid (HS.out.below hb5); clear hb5))
          refine region_all (C := Below w5.heap.size w5) (by kernel_rfl) (by kernel_rfl) (below_drew _) ?_
          have HC0 : Below w5.heap.size w5 w5 := Below.refl _ _
          cases d' <;> cases r
          all_goals
            open BigFrame in
            repeat (first | go_big_quiet_skip | (go_big_quiet_want; first | (apply quiet_one (hC := HC0); exact rfl; exact Nat.le_of_ble_eq_true rfl; (focus (intro w' hw'; have HT := HS.out.below hw'; have cc := HT.cells; obtain ⟨c3, c4, c5, c6⟩ := cc; obtain ⟨s, H, K, hB, hr⟩ := HT.ref; obtain ⟨q0, q1, q2, q3⟩ := refCells hB; clear hr hB; go_big_quiet_op; with_reducible exact rfl)); go_big_quiet_on) | (go_big_quiet_op; apply Exists.intro; refine ⟨fun w' hw' => ?_, ?_⟩; (focus (have HT := HS.out.below hw'; have cc := HT.cells; obtain ⟨c3, c4, c5, c6⟩ := cc; obtain ⟨s, H, K, hB, hr⟩ := HT.ref; obtain ⟨q0, q1, q2, q3⟩ := refCells hB; clear hr hB; first | ((have X := X3.out _ (HS.out.below hw').cur; with_reducible exact quiet_call_same hw' X)) | ((have X := X4.out _ (HS.out.below hw').cur; with_reducible exact quiet_call hw' X)) | ((have X := X5.out _ (HS.out.below hw').ref; with_reducible exact quiet_call hw' X)))); go_big_quiet_on)))
            refine wpQuiet_nil ?_
            intro w6 hb6
            go_wp2
            go_roundw
            case rel => exact ⟨j + 1, h', k', _, by omega, by go_num, ⟨HS.out.cur.below hb6, HS.out.ref.below hb6, HS.out.old.trans (hb6.mono HS.out.old.size), HS.out.lo, HS.out.lo2, HS.out.ne, HBN.out⟩⟩
            case measure => simp [intOf]; omega
      · obtain rfl : j = n := by omega
        have HO := Lib.hid hO
        clear hO
        go_wp2
        go_ret
        exact ⟨rfl, HO.out.old⟩

end Go.Proofs.YtacdbgoffepaaaaDoor
