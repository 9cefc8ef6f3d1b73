/-
  amblerlaw23.CursorOn answers true: the walk.
-/
import Derived.Test.YtacdbgoffepaaaaDoorCur
namespace Go.Proofs.YtacdbgoffepaaaaDoor
open Go.RowKit

/-- An act: its kind, its entry's key, value and hash. -/
structure Act4 where
  kind : Int
  key : Int
  val : Int
  hash : Int
def Act4.ok (x : Act4) : Prop := 0 ≤ x.key ∧ x.key < 18446744073709551616 ∧ 0 ≤ x.hash ∧ x.hash < 18446744073709551616
/-- A slice of acts, as the walk meets it. -/
def ActsAt (w : World) (p : Option Addr) (n : Nat) (F : Nat → Act4) : Prop :=
  ∀ i, i < n → ∃ a, p = some a ∧ w.cell? (a.add (i * 4)) = some (.int .i64 (F i).kind) ∧ w.cell? ⟨(a.add (i * 4)).block, (a.add (i * 4)).off + 1, none⟩ = some (.int .u64 (F i).key) ∧ w.cell? ⟨(a.add (i * 4)).block, (a.add (i * 4)).off + 2, none⟩ = some (.int .u64 (F i).val) ∧ w.cell? ⟨(a.add (i * 4)).block, (a.add (i * 4)).off + 3, none⟩ = some (.int .u64 (F i).hash)
theorem add_block (a : Addr) (j : Nat) : (a.add j).block = a.block := by
  unfold Addr.add; first | rfl | (split <;> rfl)
theorem ActsAt.below {w w' : World} {p : Option Addr} {n : Nat} {F : Nat → Act4} (H : ActsAt w p n F) (hb : Below w.heap.size w w') : ActsAt w' p n F := by
  intro i hi
  obtain ⟨a, hp, h0, h1, h2, h3⟩ := H i hi
  have hl := block_lt_of_cell h0
  exact ⟨a, hp, (hb.cell hl).trans h0, (hb.cell (p := ⟨(a.add (i * 4)).block, _, none⟩) hl).trans h1, (hb.cell (p := ⟨(a.add (i * 4)).block, _, none⟩) hl).trans h2, (hb.cell (p := ⟨(a.add (i * 4)).block, _, none⟩) hl).trans h3⟩

/-- What comes ahead of the place behind an entry: that entry and all ahead of it. -/
theorem beh_next (eh ek ah ak : Int) (h0 : 0 ≤ eh) (h1 : eh < 18446744073709551616) (k0 : 0 ≤ ek) (k1 : ek < 18446744073709551616) (h2 : 0 ≤ ah) (h3 : ah < 18446744073709551616) (k2 : 0 ≤ ak) (k3 : ak < 18446744073709551616) :
    (!afterB ak ah || lessB eh ek (afterH ak ah) (afterK ak)) = !lessB ah ak eh ek := by
  rw [Bool.eq_iff_iff]
  by_cases a : ak < 18446744073709551615
  · simp only [afterB, lessB, afterH, afterK, a, if_true, decide_true, Bool.true_or, Bool.not_true, Bool.false_or, Bool.or_eq_true, Bool.and_eq_true, decide_eq_true_eq, beq_iff_eq, Bool.not_eq_true', Bool.or_eq_false_iff, Bool.and_eq_false_iff, decide_eq_false_iff_not, beq_eq_false_iff_ne]
    omega
  · by_cases b : ah < 18446744073709551615
    · simp only [afterB, lessB, afterH, afterK, a, b, if_true, if_false, decide_true, decide_false, Bool.false_or, Bool.not_true, Bool.or_eq_true, Bool.and_eq_true, decide_eq_true_eq, beq_iff_eq, Bool.not_eq_true', Bool.or_eq_false_iff, Bool.and_eq_false_iff, decide_eq_false_iff_not, beq_eq_false_iff_ne]
      omega
    · simp only [afterB, lessB, afterH, afterK, a, b, if_false, decide_false, Bool.false_or, Bool.not_false, Bool.true_or, true_iff, Bool.not_eq_true', Bool.or_eq_false_iff, Bool.and_eq_false_iff, decide_eq_false_iff_not, beq_eq_false_iff_ne]
      omega
theorem less_trans (h1 k1 h2 k2 h3 k3 : Int) (a : lessB h1 k1 h2 k2 = true) (b : lessB h3 k3 h2 k2 = false) : lessB h3 k3 h1 k1 = false := by
  simp only [lessB, Bool.or_eq_true, Bool.and_eq_true, decide_eq_true_eq, beq_iff_eq, Bool.or_eq_false_iff, Bool.and_eq_false_iff, decide_eq_false_iff_not, beq_eq_false_iff_ne] at *
  omega
theorem after_bounds (ah ak : Int) (h2 : 0 ≤ ah) (h3 : ah < 18446744073709551616) (k2 : 0 ≤ ak) (k3 : ak < 18446744073709551616) : (0 ≤ afterH ak ah ∧ afterH ak ah < 18446744073709551616) ∧ 0 ≤ afterK ak ∧ afterK ak < 18446744073709551616 := by
  unfold afterH afterK
  by_cases a : ak < 18446744073709551615
  · simp only [a, if_true]; omega
  · by_cases b : ah < 18446744073709551615
    · simp only [a, b, if_true, if_false]; omega
    · simp only [a, b, if_false]; omega

/-- What the walk knows of a world: the cursor, the entry, that all old memory is as it was. -/
structure OnAt (w0 w : World) (b : Nat) (h k : Int) (d : Bool) (eb : Nat) (ek ev eh : Int) : Prop where
  cur : CurAt w b h k d
  ent : EntAt w eb ek ev eh
  old : Below w0.heap.size w0 w
  lo : w0.heap.size ≤ b
  ne : eb ≠ b
section
variable {w0 w w' : World} {b : Nat} {h k h' k' : Int} {d d' : Bool} {eb ab : Nat} {ek ev eh kd ak av ah : Int}
theorem OnAt.below (H : OnAt w0 w b h k d eb ek ev eh) (hb : Below w.heap.size w w') : OnAt w0 w' b h k d eb ek ev eh :=
  ⟨H.cur.below hb, H.ent.below hb, H.old.trans (hb.mono H.old.size), H.lo, H.ne⟩
theorem OnAt.but (H : OnAt w0 w b h k d eb ek ev eh) (hb : But b w w') (hc : CurAt w' b h' k' d') : OnAt w0 w' b h' k' d' eb ek ev eh :=
  ⟨hc, Blk.but H.ent hb H.ne, H.old.trans (hb.below H.lo H.old.size), H.lo, H.ne⟩
/-- The same with an act in a block. -/
def OnAct (w0 w : World) (b : Nat) (h k : Int) (d : Bool) (eb : Nat) (ek ev eh : Int) (ab : Nat) (kd ak av ah : Int) : Prop := OnAt w0 w b h k d eb ek ev eh ∧ Blk w ab 59 #[.int .i64 kd, .int .u64 ak, .int .u64 av, .int .u64 ah] ∧ ab ≠ b
theorem OnAct.below (H : OnAct w0 w b h k d eb ek ev eh ab kd ak av ah) (hb : Below w.heap.size w w') : OnAct w0 w' b h k d eb ek ev eh ab kd ak av ah := ⟨H.1.below hb, H.2.1.below hb, H.2.2⟩
theorem OnAct.but (H : OnAct w0 w b h k d eb ek ev eh ab kd ak av ah) (hb : But b w w') (hc : CurAt w' b h' k' d') : OnAct w0 w' b h' k' d' eb ek ev eh ab kd ak av ah := ⟨H.1.but hb hc, H.2.1.but hb H.2.2, H.2.2⟩
theorem OnAct.cells (H : OnAct w0 w b h k d eb ek ev eh ab kd ak av ah) : (w.cell? ⟨eb, 0, none⟩ = some (.int .u64 ek) ∧ w.cell? ⟨eb, 1, none⟩ = some (.int .u64 ev) ∧ w.cell? ⟨eb, 2, none⟩ = some (.int .u64 eh)) ∧ w.cell? ⟨ab, 0, none⟩ = some (.int .i64 kd) ∧ w.cell? ⟨ab, 1, none⟩ = some (.int .u64 ak) ∧ w.cell? ⟨ab, 2, none⟩ = some (.int .u64 av) ∧ w.cell? ⟨ab, 3, none⟩ = some (.int .u64 ah) :=
  ⟨H.1.ent.cells, Blk.cell H.2.1 0, Blk.cell H.2.1 1, Blk.cell H.2.1 2, Blk.cell H.2.1 3⟩
end

set_option maxHeartbeats 2000000 in
set_option maxRecDepth 100000 in
theorem on_walk (p : Option Addr) (n cap : Nat) (F : Nat → Act4) (ek ev eh : Int) (w : World) (ea : Addr) (hE : ErrAt w 1 ea) (hA : ActsAt w p n F) (hF : ∀ i, i < n → (F i).ok) (hn : n ≤ maxLen)
    (k0 : 0 ≤ ek) (k1 : ek < 18446744073709551616) (h0 : 0 ≤ eh) (h1 : eh < 18446744073709551616) :
    Calls Tryd.prog 7 #[.slice p n cap, entV ek ev eh] w fun e w' => e = .returned (.bool true) ∧ Below w.heap.size w w' := by
  have HA := Lib.hid (And.intro hE (And.intro hA hF))
  have HEB := Lib.hid (And.intro (And.intro k0 k1) (And.intro h0 h1))
  clear hE hA hF k0 k1 h0 h1
  go_enter Tryd.func7, Tryd.ntmps7
  go_upto_region 1 with fail
  generalize hw1 : w.alloc (Obj.cells #[Value.int IntKind.u64 ek, Value.int IntKind.u64 ev, Value.int IntKind.u64 eh] 42) = w1
  have hB1 : Below w.heap.size w w1 := by subst hw1; exact (Below.refl _ _).alloc (Nat.le_refl _) _
  have hE1 : EntAt w1 w.heap.size ek ev eh := by subst hw1; exact Blk.new w _ _
  have HX := Lib.hid (And.intro hE1 hB1)
  clear hw1 hB1 hE1
  go_upto_region 3 with (go_at_call 20; refine (alive23 _).mono ?_; rintro e w2 ⟨rfl, hb2⟩)
  have HK := Lib.hid (And.intro (HX.out.1.below hb2) (HX.out.2.trans (hb2.mono HX.out.2.size)))
  clear HX hb2
  by_cases h60 : 60 < n
  · have h60' : (60 : Int) < n := by omega
    clear h60
    go_wp2
    go_ret
    exact ⟨rfl, HK.out.2⟩
  · have h60' : (n : Int) ≤ 60 := by omega
    clear h60
    go_wp2_with (go_at_call 21; refine (cur_new _).mono ?_; rintro e w3 ⟨rfl, hc3, hb3⟩)
    have HS0 := Lib.hid (show OnAt w w3 w2.heap.size 0 0 false w.heap.size ek ev eh from ⟨hc3, HK.out.1.below hb3, HK.out.2.trans (hb3.mono HK.out.2.size), HK.out.2.size, Nat.ne_of_lt HK.out.1.lt⟩)
    clear hc3 hb3 HK
    generalize w2.heap.size = b at *
    go_loopw [17, 6] (fun i ws wr => ∃ (j : Nat) (h k : Int) (d : Bool), j ≤ n ∧ i = .int .i64 j ∧ ws = .bool (d || lessB eh ek h k) ∧ OnAt w wr b h k d w.heap.size ek ev eh) (fun i _ _ => n - (intOf i).toNat)
    case atStart =>
      refine ⟨0, 0, 0, false, by omega, rfl, ?_, HS0.out⟩
      have e : lessB eh ek 0 0 = false := by have := HEB.out; simp [lessB]; omega
      rw [e]; rfl
    case round =>
      obtain ⟨j, h, k, d, hj, rfl, rfl, hO⟩ := hrel
      by_cases hlt : j < n
      · obtain ⟨a, rfl, ha0, ha1, ha2, ha3⟩ := (HA.out.2.1.below hO.old) j hlt
        have hok := HA.out.2.2 j hlt
        unfold Act4.ok at hok
        generalize (F j).kind = kd at *
        generalize (F j).key = ak at *
        generalize (F j).val = av at *
        generalize (F j).hash = ah at *
        have HO := Lib.hid hO
        have HOK := Lib.hid hok
        clear hO hok
        go_upto_region 10 with fail
        generalize hw4 : wr.alloc (Obj.cells #[Value.int IntKind.i64 kd, Value.int IntKind.u64 ak, Value.int IntKind.u64 av, Value.int IntKind.u64 ah] 59) = w4
        have hB4 : Below wr.heap.size wr w4 := by subst hw4; exact (Below.refl _ _).alloc (Nat.le_refl _) _
        have hE4 : Blk w4 wr.heap.size 59 #[.int .i64 kd, .int .u64 ak, .int .u64 av, .int .u64 ah] := by subst hw4; exact Blk.new wr _ _
        have HS := Lib.hid (show OnAct w w4 b h k d w.heap.size ek ev eh wr.heap.size kd ak av ah from ⟨HO.out.below hB4, hE4, Nat.ne_of_gt HO.out.cur.lt⟩)
        clear hw4 hB4 hE4 ha0 ha1 ha2 ha3 HO
        generalize wr.heap.size = ab at *
        obtain ⟨⟨c0, c1, c2⟩, c3, c4, c5, c6⟩ := HS.out.cells
        by_cases kz : kd = 0
        · subst kz
          by_cases hL : (d || lessB ah ak h k) = true
          · have X1 := Lib.hid (fun W H hE => cur_pass_no b h k d ak av ah ea W H hE hL)
            have X2 := Lib.hid (fun W H => cur_behind b h k d ek ev eh W H)
            clear hL
            obtain ⟨r, hr⟩ : ∃ r, (d || lessB eh ek h k) = r := ⟨_, rfl⟩
            rw [hr] at X2 ⊢
            have HR := Lib.hid hr
            clear hr
            cases r
            all_goals
              go_wp2_with (first
                | (go_at_call 24; refine (X1.out _ HS.out.1.cur (HA.out.1.same HS.out.1.old)).mono ?_; rintro e w5 ⟨rfl, hb5⟩; replace HS := Lib.hid (HS.out.below hb5); clear hb5; obtain ⟨⟨c0, c1, c2⟩, c3, c4, c5, c6⟩ := HS.out.cells)
                | (go_at_call 25; refine (X2.out _ HS.out.1.cur).mono ?_; rintro e w5 ⟨rfl, hb5⟩; replace HS := Lib.hid (HS.out.below hb5); clear hb5; obtain ⟨⟨c0, c1, c2⟩, c3, c4, c5, c6⟩ := HS.out.cells))
              go_roundw
              case rel => exact ⟨j + 1, h, k, d, by omega, by go_num, congrArg Value.bool HR.out.symm, HS.out.1⟩
              case measure => simp [intOf]; omega
          · have hd : d = false := by cases d; rfl; simp at hL
            subst hd
            have hL2 : lessB ah ak h k = false := by simpa using hL
            clear hL
            have X1 := Lib.hid (fun W H => cur_pass_yes b h k ak av ah W H HOK.out.1 HOK.out.2.2.1 hL2)
            have X2 := Lib.hid (fun W H => cur_behind b (afterH ak ah) (afterK ak) (!afterB ak ah) ek ev eh W H)
            have X3 := Lib.hid (fun W H => cur_behind b (afterH ak ah) (afterK ak) (!afterB ak ah) ak av ah W H)
            have X4 := Lib.hid (fun W => before_any ek ev eh ak av ah W)
            have hq : (!afterB ak ah || lessB eh ek (afterH ak ah) (afterK ak)) = !lessB ah ak eh ek := beh_next eh ek ah ak HEB.out.2.1 HEB.out.2.2 HEB.out.1.1 HEB.out.1.2 HOK.out.2.2.1 HOK.out.2.2.2 HOK.out.1 HOK.out.2.1
            have hq2 : (!afterB ak ah || lessB ah ak (afterH ak ah) (afterK ak)) = true := by
              rw [beh_next ah ak ah ak HOK.out.2.2.1 HOK.out.2.2.2 HOK.out.1 HOK.out.2.1 HOK.out.2.2.1 HOK.out.2.2.2 HOK.out.1 HOK.out.2.1, lessB_irrefl]; rfl
            have hpq : lessB eh ek ah ak = true → lessB ah ak eh ek = false := fun x => less_trans eh ek ah ak ah ak x (lessB_irrefl _ _)
            have hrq : lessB eh ek h k = true → lessB ah ak eh ek = false := fun x => less_trans eh ek h k ah ak x hL2
            rw [hq] at X2
            rw [hq2] at X3
            have HQ := Lib.hid hq
            clear hq hq2 hL2
            generalize afterH ak ah = nh at *
            generalize afterK ak = nk at *
            generalize (!afterB ak ah) = nd at *
            rw [Bool.false_or]
            generalize lessB eh ek ah ak = pp at *
            generalize lessB ah ak eh ek = q at *
            generalize lessB eh ek h k = r at *
            have HC := Lib.hid (And.intro hpq hrq)
            clear hpq hrq
            cases q
            case false =>
              clear HC
              cases pp <;> cases r
              all_goals
                go_wp2_with (first
                  | (go_at_call 24; refine (X1.out _ HS.out.1.cur).mono ?_; rintro e w5 ⟨rfl, hc5, hb5⟩; replace HS := Lib.hid (HS.out.but hb5 hc5); clear hb5 hc5; obtain ⟨⟨c0, c1, c2⟩, c3, c4, c5, c6⟩ := HS.out.cells)
                  | (go_at_call 25; have hcur := HS.out.1.cur; with_reducible refine (X2.out _ hcur).mono ?_; clear hcur; rintro e w5 ⟨rfl, hb5⟩; replace HS := Lib.hid (HS.out.below hb5); clear hb5; obtain ⟨⟨c0, c1, c2⟩, c3, c4, c5, c6⟩ := HS.out.cells)
                  | (go_at_call 25; have hcur := HS.out.1.cur; with_reducible refine (X3.out _ hcur).mono ?_; clear hcur; rintro e w5 ⟨rfl, hb5⟩; replace HS := Lib.hid (HS.out.below hb5); clear hb5; obtain ⟨⟨c0, c1, c2⟩, c3, c4, c5, c6⟩ := HS.out.cells)
                  | (go_at_call 23; refine (X4.out _).mono ?_; rintro e w5 ⟨rfl, hb5⟩; replace HS := Lib.hid (HS.out.below hb5); clear hb5; obtain ⟨⟨c0, c1, c2⟩, c3, c4, c5, c6⟩ := HS.out.cells))
                go_roundw
                case rel => exact ⟨j + 1, nh, nk, nd, by omega, by go_num, congrArg Value.bool HQ.out.symm, HS.out.1⟩
                case measure => simp [intOf]; omega
            case true =>
                obtain rfl : pp = false := by cases pp; rfl; exact absurd (HC.out.1 rfl) (by decide)
                obtain rfl : r = false := by cases r; rfl; exact absurd (HC.out.2 rfl) (by decide)
                clear HC
                go_wp2_with (first
                  | (go_at_call 24; refine (X1.out _ HS.out.1.cur).mono ?_; rintro e w5 ⟨rfl, hc5, hb5⟩; replace HS := Lib.hid (HS.out.but hb5 hc5); clear hb5 hc5; obtain ⟨⟨c0, c1, c2⟩, c3, c4, c5, c6⟩ := HS.out.cells)
                  | (go_at_call 25; have hcur := HS.out.1.cur; with_reducible refine (X2.out _ hcur).mono ?_; clear hcur; rintro e w5 ⟨rfl, hb5⟩; replace HS := Lib.hid (HS.out.below hb5); clear hb5; obtain ⟨⟨c0, c1, c2⟩, c3, c4, c5, c6⟩ := HS.out.cells)
                  | (go_at_call 25; have hcur := HS.out.1.cur; with_reducible refine (X3.out _ hcur).mono ?_; clear hcur; rintro e w5 ⟨rfl, hb5⟩; replace HS := Lib.hid (HS.out.below hb5); clear hb5; obtain ⟨⟨c0, c1, c2⟩, c3, c4, c5, c6⟩ := HS.out.cells)
                  | (go_at_call 23; refine (X4.out _).mono ?_; rintro e w5 ⟨rfl, hb5⟩; replace HS := Lib.hid (HS.out.below hb5); clear hb5; obtain ⟨⟨c0, c1, c2⟩, c3, c4, c5, c6⟩ := HS.out.cells))
                go_roundw
                case rel => exact ⟨j + 1, nh, nk, nd, by omega, by go_num, congrArg Value.bool HQ.out.symm, HS.out.1⟩
                case measure => simp [intOf]; omega
        · by_cases k1 : kd = 1
          · subst k1
            clear kz
            by_cases hL : (d || decide (ah < h)) = true
            · have X1 := Lib.hid (fun W H hE => cur_skip_no b h k d ah ea W H hE hL)
              have X2 := Lib.hid (fun W H => cur_behind b h k d ek ev eh W H)
              clear hL
              obtain ⟨r, hr⟩ : ∃ r, (d || lessB eh ek h k) = r := ⟨_, rfl⟩
              rw [hr] at X2 ⊢
              have HR := Lib.hid hr
              clear hr
              cases r
              all_goals
                go_wp2_with (first
                  | (go_at_call 32; refine (X1.out _ HS.out.1.cur (HA.out.1.same HS.out.1.old)).mono ?_; rintro e w5 ⟨rfl, rfl⟩)
                  | (go_at_call 25; refine (X2.out _ HS.out.1.cur).mono ?_; rintro e w5 ⟨rfl, hb5⟩; replace HS := Lib.hid (HS.out.below hb5); clear hb5; obtain ⟨⟨c0, c1, c2⟩, c3, c4, c5, c6⟩ := HS.out.cells))
                go_roundw
                case rel => exact ⟨j + 1, h, k, d, by omega, by go_num, congrArg Value.bool HR.out.symm, HS.out.1⟩
                case measure => simp [intOf]; omega
            · have hd : d = false := by cases d; rfl; simp at hL
              subst hd
              have hL2 : decide (ah < h) = false := by simpa using hL
              clear hL
              have X1 := Lib.hid (fun W H => cur_skip_yes b h k ah W H HOK.out.2.2.1 hL2)
              have X2 := Lib.hid (fun W H => cur_behind b (afterH 18446744073709551615 ah) (afterK 18446744073709551615) (!afterB 18446744073709551615 ah) ek ev eh W H)
              have hq : (!afterB 18446744073709551615 ah || lessB eh ek (afterH 18446744073709551615 ah) (afterK 18446744073709551615)) = !lessB ah 18446744073709551615 eh ek := beh_next eh ek ah 18446744073709551615 HEB.out.2.1 HEB.out.2.2 HEB.out.1.1 HEB.out.1.2 HOK.out.2.2.1 HOK.out.2.2.2 (by decide) (by decide)
              have hpq : decide (eh ≤ ah) = true → lessB ah 18446744073709551615 eh ek = false := by
                intro x
                have := HEB.out
                simp only [lessB, decide_eq_true_eq, Bool.or_eq_false_iff, Bool.and_eq_false_iff, decide_eq_false_iff_not, beq_eq_false_iff_ne] at x ⊢
                omega
              have hrq : lessB eh ek h k = true → lessB ah 18446744073709551615 eh ek = false := by
                intro x
                have := HEB.out
                simp only [lessB, Bool.or_eq_true, Bool.and_eq_true, decide_eq_true_eq, beq_iff_eq, Bool.or_eq_false_iff, Bool.and_eq_false_iff, decide_eq_false_iff_not, beq_eq_false_iff_ne] at x hL2 ⊢
                omega
              rw [hq] at X2
              have HQ := Lib.hid hq
              clear hq hL2
              generalize afterH 18446744073709551615 ah = nh at *
              generalize afterK 18446744073709551615 = nk at *
              generalize (!afterB 18446744073709551615 ah) = nd at *
              rw [Bool.false_or]
              generalize lessB ah 18446744073709551615 eh ek = q at *
              generalize lessB eh ek h k = r at *
              have HC := Lib.hid (And.intro hpq hrq)
              clear hpq hrq
              cases q
              case false =>
                clear HC
                by_cases le : eh ≤ ah
                · cases r
                  all_goals
                    go_wp2_with (first
                      | (go_at_call 32; refine (X1.out _ HS.out.1.cur).mono ?_; rintro e w5 ⟨rfl, hc5, hb5⟩; replace HS := Lib.hid (HS.out.but hb5 hc5); clear hb5 hc5; obtain ⟨⟨c0, c1, c2⟩, c3, c4, c5, c6⟩ := HS.out.cells)
                      | (go_at_call 25; refine (X2.out _ HS.out.1.cur).mono ?_; rintro e w5 ⟨rfl, hb5⟩; replace HS := Lib.hid (HS.out.below hb5); clear hb5; obtain ⟨⟨c0, c1, c2⟩, c3, c4, c5, c6⟩ := HS.out.cells))
                    go_roundw
                    case rel => exact ⟨j + 1, nh, nk, nd, by omega, by go_num, congrArg Value.bool HQ.out.symm, HS.out.1⟩
                    case measure => simp [intOf]; omega
                · have le2 : decide (eh ≤ ah) = false := decide_eq_false le
                  clear le
                  cases r
                  all_goals
                    go_wp2_with (first
                      | (go_at_call 32; refine (X1.out _ HS.out.1.cur).mono ?_; rintro e w5 ⟨rfl, hc5, hb5⟩; replace HS := Lib.hid (HS.out.but hb5 hc5); clear hb5 hc5; obtain ⟨⟨c0, c1, c2⟩, c3, c4, c5, c6⟩ := HS.out.cells)
                      | (go_at_call 25; refine (X2.out _ HS.out.1.cur).mono ?_; rintro e w5 ⟨rfl, hb5⟩; replace HS := Lib.hid (HS.out.below hb5); clear hb5; obtain ⟨⟨c0, c1, c2⟩, c3, c4, c5, c6⟩ := HS.out.cells))
                    go_roundw
                    case rel => exact ⟨j + 1, nh, nk, nd, by omega, by go_num, congrArg Value.bool HQ.out.symm, HS.out.1⟩
                    case measure => simp [intOf]; omega
              case true =>
                have le2 : decide (eh ≤ ah) = false := by
                  cases x : decide (eh ≤ ah)
                  · rfl
                  · exact absurd (HC.out.1 x) (by decide)
                obtain rfl : r = false := by cases r; rfl; exact absurd (HC.out.2 rfl) (by decide)
                clear HC
                go_wp2_with (first
                  | (go_at_call 32; refine (X1.out _ HS.out.1.cur).mono ?_; rintro e w5 ⟨rfl, hc5, hb5⟩; replace HS := Lib.hid (HS.out.but hb5 hc5); clear hb5 hc5; obtain ⟨⟨c0, c1, c2⟩, c3, c4, c5, c6⟩ := HS.out.cells)
                  | (go_at_call 25; refine (X2.out _ HS.out.1.cur).mono ?_; rintro e w5 ⟨rfl, hb5⟩; replace HS := Lib.hid (HS.out.below hb5); clear hb5; obtain ⟨⟨c0, c1, c2⟩, c3, c4, c5, c6⟩ := HS.out.cells))
                go_roundw
                case rel => exact ⟨j + 1, nh, nk, nd, by omega, by go_num, congrArg Value.bool HQ.out.symm, HS.out.1⟩
                case measure => simp [intOf]; omega
          · have kz' : (kd == 0) = false := by simpa using kz
            have k1' : (kd == 1) = false := by simpa using k1
            clear kz k1
            by_cases k2 : kd = 2
            · subst k2
              go_wp2
              go_roundw
              case rel => exact ⟨j + 1, h, k, d, by omega, by go_num, rfl, HS.out.1⟩
              case measure => simp [intOf]; omega
            · have k2' : (kd == 2) = false := by simpa using k2
              clear k2
              have X2 := Lib.hid (fun W H => cur_behind b h k d ek ev eh W H)
              obtain ⟨r, hr⟩ : ∃ r, (d || lessB eh ek h k) = r := ⟨_, rfl⟩
              rw [hr] at X2 ⊢
              have HR := Lib.hid hr
              clear hr
              cases r
              all_goals
                go_wp2_with (first
                  | (go_at_call 25; refine (X2.out _ HS.out.1.cur).mono ?_; rintro e w5 ⟨rfl, hb5⟩; replace HS := Lib.hid (HS.out.below hb5); clear hb5; obtain ⟨⟨c0, c1, c2⟩, c3, c4, c5, c6⟩ := HS.out.cells))
                go_roundw
                case rel => exact ⟨j + 1, h, k, d, by omega, by go_num, congrArg Value.bool HR.out.symm, HS.out.1⟩
                case measure => simp [intOf]; omega
      · obtain rfl : j = n := by omega
        have X1 := Lib.hid (fun W H => cur_end b h k d W H)
        have X2 := Lib.hid (fun W H => cur_done b 0 0 true W H)
        have X3 := Lib.hid (fun W H => cur_behind b 0 0 true ek ev eh W H)
        have X4 := Lib.hid (fun W H hE => cur_pass_no b 0 0 true ek ev eh ea W H hE rfl)
        have X5 := Lib.hid (fun W H hE => cur_skip_no b 0 0 true eh ea W H hE rfl)
        rw [Bool.true_or] at X3
        have HS := Lib.hid hO
        clear hO
        generalize (d || lessB eh ek h k) = r at *
        obtain ⟨c0, c1, c2⟩ := HS.out.ent.cells
        go_wp2_with (first
          | (go_at_call 33; refine (X1.out _ HS.out.cur).mono ?_; rintro e w5 ⟨rfl, hc5, hb5⟩; replace HS := Lib.hid (HS.out.but hb5 hc5); clear hb5 hc5; obtain ⟨c0, c1, c2⟩ := HS.out.ent.cells)
          | (go_at_call 34; refine (X2.out _ HS.out.cur).mono ?_; rintro e w5 ⟨rfl, rfl⟩)
          | (go_at_call 25; refine (X3.out _ HS.out.cur).mono ?_; rintro e w5 ⟨rfl, hb5⟩; replace HS := Lib.hid (HS.out.below hb5); clear hb5; obtain ⟨c0, c1, c2⟩ := HS.out.ent.cells)
          | (go_at_call 24; refine (X4.out _ HS.out.cur (HA.out.1.same HS.out.old)).mono ?_; rintro e w5 ⟨rfl, hb5⟩; replace HS := Lib.hid (HS.out.below hb5); clear hb5; obtain ⟨c0, c1, c2⟩ := HS.out.ent.cells)
          | (go_at_call 32; refine (X5.out _ HS.out.cur (HA.out.1.same HS.out.old)).mono ?_; rintro e w5 ⟨rfl, rfl⟩))
        go_ret
        exact ⟨rfl, HS.out.old⟩

end Go.Proofs.YtacdbgoffepaaaaDoor
