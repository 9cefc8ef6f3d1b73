/-
  The document's cursor (amblerref23) by contracts.
-/
import Derived.Test.YtacdbgoffepaaaaDoorCurOn
namespace Go.Proofs.YtacdbgoffepaaaaDoor
open Go.RowKit

/-- The document's cursor in a block, where it stands as the cursor (h, k, d) does. -/
def RefAt (w : World) (b : Nat) (h k : Int) (d : Bool) : Prop :=
  ∃ (s : Bool) (H K : Int), Blk w b 64 #[.bool s, .bool d, .int .u64 H, .int .u64 K] ∧ (0 ≤ H ∧ H < 18446744073709551616) ∧ (0 ≤ K ∧ K < 18446744073709551616) ∧
    (d = true → h = 0 ∧ k = 0) ∧ (d = false → s = false → h = 0 ∧ k = 0) ∧ (d = false → s = true → h = afterH K H ∧ k = afterK K ∧ afterB K H = true)
theorem RefAt.below {w w' : World} {b : Nat} {h k : Int} {d : Bool} (H : RefAt w b h k d) (hb : Below w.heap.size w w') : RefAt w' b h k d := by
  obtain ⟨s, H, K, hB, r⟩ := H
  exact ⟨s, H, K, hB.below hb, r⟩
theorem RefAt.but {w w' : World} {b c : Nat} {h k : Int} {d : Bool} (H : RefAt w b h k d) (hb : But c w w') (hne : b ≠ c) : RefAt w' b h k d := by
  obtain ⟨s, H, K, hB, r⟩ := H
  exact ⟨s, H, K, Blk.but hB hb hne, r⟩
theorem RefAt.lt {w : World} {b : Nat} {h k : Int} {d : Bool} (H : RefAt w b h k d) : b < w.heap.size := by
  obtain ⟨s, H, K, hB, r⟩ := H
  exact hB.lt
theorem refCells {w : World} {b : Nat} {s d : Bool} {H K : Int} (hB : Blk w b 64 #[.bool s, .bool d, .int .u64 H, .int .u64 K]) :
    w.cell? ⟨b, 0, none⟩ = some (.bool s) ∧ w.cell? ⟨b, 1, none⟩ = some (.bool d) ∧ w.cell? ⟨b, 2, none⟩ = some (.int .u64 H) ∧ w.cell? ⟨b, 3, none⟩ = some (.int .u64 K) :=
  ⟨Blk.cell hB 0, Blk.cell hB 1, Blk.cell hB 2, Blk.cell hB 3⟩

set_option maxHeartbeats 400000 in
theorem ref_at (b : Nat) (h k : Int) (d : Bool) (w : World) (H : RefAt w b h k d) : Calls Tryd.prog 38 #[.pointer (some ⟨b, 0, none⟩)] w fun e w' => e = .returned (.tuple #[.int .u64 h, .int .u64 k]) ∧ Below w.heap.size w w' := by
  obtain ⟨s, H, K, hB, ⟨H0, H1⟩, ⟨K0, K1⟩, r1, r2, r3⟩ := H
  obtain ⟨c0, c1, c2, c3⟩ := refCells hB
  clear hB
  cases d
  case true =>
    obtain ⟨rfl, rfl⟩ := r1 rfl
    clear r1 r2 r3
    go_enter Tryd.func38, Tryd.ntmps38
    go_wp2
    go_ret2
    exact ⟨rfl, Below.refl _ _⟩
  case false =>
    cases s
    case false =>
      obtain ⟨rfl, rfl⟩ := r2 rfl rfl
      clear r1 r2 r3
      go_enter Tryd.func38, Tryd.ntmps38
      go_wp2
      go_ret2
      exact ⟨rfl, Below.refl _ _⟩
    case true =>
      obtain ⟨rfl, rfl, hb⟩ := r3 rfl rfl
      clear r1 r2 r3
      by_cases hk : K < 18446744073709551615
      · have e1 : afterH K H = H := by simp [afterH, hk]
        have e2 : afterK K = K + 1 := by simp [afterK, hk]
        have e3 : (K + 1 == 0) = false := by simp; omega
        rw [e1, e2]
        clear e1 e2 hb
        go_enter Tryd.func38, Tryd.ntmps38
        go_wp2
        go_quiet (fail)
        go_wp2
        go_ret2
        exact ⟨rfl, below_drewN (Below.refl _ _) _⟩
      · obtain rfl : K = 18446744073709551615 := by omega
        have hh : H < 18446744073709551615 := by simpa [afterB] using hb
        have e1 : afterH 18446744073709551615 H = H + 1 := by simp [afterH, hh]
        have e2 : afterK 18446744073709551615 = 0 := by simp [afterK]
        rw [e1, e2]
        clear e1 e2 hb hk
        go_enter Tryd.func38, Tryd.ntmps38
        go_wp2
        go_ret2
        exact ⟨rfl, Below.refl _ _⟩

theorem ref_beh (eh ek H K : Int) : (!lessB H K eh ek) = (decide (eh < H) || (eh == H && decide (ek ≤ K))) := by
  rw [Bool.eq_iff_iff]
  simp only [lessB, Bool.or_eq_true, Bool.and_eq_true, decide_eq_true_eq, beq_iff_eq, Bool.not_eq_true', Bool.or_eq_false_iff, Bool.and_eq_false_iff, decide_eq_false_iff_not, beq_eq_false_iff_ne]
  omega

set_option maxHeartbeats 400000 in
theorem ref_behind (b : Nat) (h k : Int) (d : Bool) (ek ev eh : Int) (w : World) (H : RefAt w b h k d) (h0 : 0 ≤ eh ∧ eh < 18446744073709551616) (k0 : 0 ≤ ek ∧ ek < 18446744073709551616) : Calls Tryd.prog 39 #[.pointer (some ⟨b, 0, none⟩), entV ek ev eh] w fun e w' => e = .returned (.bool (d || lessB eh ek h k)) ∧ Below w.heap.size w w' := by
  obtain ⟨s, H, K, hB, ⟨H0, H1⟩, ⟨K0, K1⟩, r1, r2, r3⟩ := H
  have hbl := hB.lt
  cases d
  case true =>
    obtain ⟨c0, c1, c2, c3⟩ := refCells hB
    clear r1 r2 r3 hB h0 k0
    go_enter Tryd.func39, Tryd.ntmps39
    go_wp2
    go_ret
    exact ⟨rfl, (Below.refl _ _).alloc (Nat.le_refl _) _⟩
  case false =>
    cases s
    case false =>
      obtain ⟨c0, c1, c2, c3⟩ := refCells hB
      obtain ⟨rfl, rfl⟩ := r2 rfl rfl
      have e : (false || lessB eh ek 0 0) = false := by simp [lessB]; omega
      rw [e]
      clear r1 r2 r3 hB h0 k0 e
      go_enter Tryd.func39, Tryd.ntmps39
      go_wp2
      go_ret
      exact ⟨rfl, (Below.refl _ _).alloc (Nat.le_refl _) _⟩
    case true =>
      obtain ⟨rfl, rfl, hb⟩ := r3 rfl rfl
      have e := beh_next eh ek H K h0.1 h0.2 k0.1 k0.2 H0 H1 K0 K1
      rw [hb, ref_beh] at e
      change (false || lessB eh ek (afterH K H) (afterK K)) = _ at e
      rw [e]
      obtain ⟨c0, c1, c2, c3⟩ := refCells hB
      have HB := Lib.hid hB
      clear r1 r2 r3 h0 k0 e hb hB H0 H1 K0 K1
      have hcase : (decide (eh < H) = true ∧ (decide (eh < H) || (eh == H && decide (ek ≤ K))) = true) ∨ (decide (eh < H) = false ∧ (eh == H) = false ∧ (decide (eh < H) || (eh == H && decide (ek ≤ K))) = false) ∨ (decide (eh < H) = false ∧ (eh == H) = true ∧ (decide (eh < H) || (eh == H && decide (ek ≤ K))) = decide (ek ≤ K)) := by
        cases decide (eh < H) <;> cases (eh == H) <;> simp
      rcases hcase with ⟨a1, a3⟩ | ⟨a1, a2, a3⟩ | ⟨a1, a2, a3⟩
      all_goals
        rw [a3]
        clear a3
        go_enter Tryd.func39, Tryd.ntmps39
        go_wp2
        go_quiet (fail)
        go_wp2
        go_ret
        exact ⟨rfl, below_drewN ((Below.refl _ _).alloc (Nat.le_refl _) _) _⟩

theorem ref_pass_in (b : Nat) (s d : Bool) (H K h k : Int) (w : World) (hB : Blk w b 64 #[.bool s, .bool d, .int .u64 H, .int .u64 K]) (h0 : 0 ≤ h ∧ h < 18446744073709551616) (k0 : 0 ≤ k ∧ k < 18446744073709551616) :
    Calls Tryd.prog 59 #[.pointer (some ⟨b, 0, none⟩), .int .u64 h, .int .u64 k] w fun e w' => e = .returned (.tuple #[]) ∧ RefAt w' b (afterH k h) (afterK k) (!afterB k h) ∧ But b w w' := by
  have c := refCells hB
  obtain ⟨c0, c1, c2, c3⟩ := c
  have f0 : w.frozen? ⟨b, 0, none⟩ = false := Blk.free hB 0
  have f1 : w.frozen? ⟨b, 1, none⟩ = false := Blk.free hB 1
  have f2 : w.frozen? ⟨b, 2, none⟩ = false := Blk.free hB 2
  have f3 : w.frozen? ⟨b, 3, none⟩ = false := Blk.free hB 3
  have HB := Lib.hid hB
  have HQ := Lib.hid (And.intro h0 k0)
  have hend : ∀ D : Bool, D = !afterB k h → Blk w b 64 #[.bool s, .bool d, .int .u64 H, .int .u64 K] → ∀ w', Blk w' b 64 #[.bool true, .bool D, .int .u64 h, .int .u64 k] → RefAt w' b (afterH k h) (afterK k) (!afterB k h) := by
    intro D hD _ w' hw'
    subst hD
    refine ⟨true, h, k, hw', HQ.out.1, HQ.out.2, ?_, (fun _ x => by cases x), (fun hd _ => ⟨rfl, rfl, by simpa using hd⟩)⟩
    intro hd
    have hd' : afterB k h = false := by simpa using hd
    simp only [afterB, Bool.or_eq_false_iff, decide_eq_false_iff_not] at hd'
    simp [afterH, afterK, hd'.1, hd'.2]
  have HE := Lib.hid hend
  clear hend hB
  obtain ⟨h0, h1⟩ := h0
  obtain ⟨k0, k1⟩ := k0
  by_cases a : h < 18446744073709551615
  · have e1 : (h + 1 == 0) = false := by simp; omega
    have hd : false = !afterB k h := by simp [afterB, a]
    have HD := Lib.hid hd
    clear hd
    go_enter Tryd.func59, Tryd.ntmps59
    go_wp2
    go_end0
    exact ⟨rfl, HE.out false HD.out HB.out _ (Blk.set_ (Blk.set_ (Blk.set_ (Blk.set_ HB.out 0 _) 2 _) 3 _) 1 _), ((((But.refl _ _).set_ 0 _).set_ 2 _).set_ 3 _).set_ 1 _⟩
  · obtain rfl : h = 18446744073709551615 := by omega
    clear a
    by_cases a : k < 18446744073709551615
    · have e1 : (k + 1 == 0) = false := by simp; omega
      have hd : false = !afterB k 18446744073709551615 := by simp [afterB, a]
      have HD := Lib.hid hd
      clear hd
      go_enter Tryd.func59, Tryd.ntmps59
      go_wp2
      go_end0
      exact ⟨rfl, HE.out false HD.out HB.out _ (Blk.set_ (Blk.set_ (Blk.set_ (Blk.set_ HB.out 0 _) 2 _) 3 _) 1 _), ((((But.refl _ _).set_ 0 _).set_ 2 _).set_ 3 _).set_ 1 _⟩
    · obtain rfl : k = 18446744073709551615 := by omega
      clear a
      go_enter Tryd.func59, Tryd.ntmps59
      go_wp2
      go_end0
      exact ⟨rfl, HE.out true rfl HB.out _ (Blk.set_ (Blk.set_ (Blk.set_ (Blk.set_ HB.out 0 _) 2 _) 3 _) 1 _), ((((But.refl _ _).set_ 0 _).set_ 2 _).set_ 3 _).set_ 1 _⟩
theorem ref_pass_at (b : Nat) (h k : Int) (d : Bool) (h' k' : Int) (w : World) (H : RefAt w b h k d) (h0 : 0 ≤ h' ∧ h' < 18446744073709551616) (k0 : 0 ≤ k' ∧ k' < 18446744073709551616) :
    Calls Tryd.prog 59 #[.pointer (some ⟨b, 0, none⟩), .int .u64 h', .int .u64 k'] w fun e w' => e = .returned (.tuple #[]) ∧ RefAt w' b (afterH k' h') (afterK k') (!afterB k' h') ∧ But b w w' := by
  obtain ⟨s, H, K, hB, _⟩ := H
  exact ref_pass_in b s d H K h' k' w hB h0 k0

set_option maxHeartbeats 400000 in
theorem ref_pass_no (b : Nat) (h k : Int) (d : Bool) (ek ev eh : Int) (w : World) (H : RefAt w b h k d) (h0 : 0 ≤ eh ∧ eh < 18446744073709551616) (k0 : 0 ≤ ek ∧ ek < 18446744073709551616) (hl : (d || lessB eh ek h k) = true) :
    Calls Tryd.prog 35 #[.pointer (some ⟨b, 0, none⟩), entV ek ev eh] w fun e w' => e = .returned (.int .i64 5) ∧ Below w.heap.size w w' := by
  have HB := Lib.hid (fun W H => ref_behind b h k d ek ev eh W H h0 k0)
  rw [hl] at HB
  have HH := Lib.hid H
  clear H hl h0 k0
  go_enter Tryd.func35, Tryd.ntmps35
  go_upto_region 1 with fail
  generalize hw1 : w.alloc (Obj.cells #[Value.int IntKind.u64 ek, Value.int IntKind.u64 ev, Value.int IntKind.u64 eh] 42) = w1
  have hB1 : Below w.heap.size w w1 := by subst hw1; exact (Below.refl _ _).alloc (Nat.le_refl _) _
  have hE1 : EntAt w1 w.heap.size ek ev eh := by subst hw1; exact Blk.new w _ _
  obtain ⟨c20, c21, c22⟩ := hE1.cells
  have HX := Lib.hid (And.intro (HH.out.below hB1) hB1)
  clear hw1 hB1 hE1
  go_wp2_with (go_at_call 39; refine (HB.out _ HX.out.1).mono ?_; rintro e w2 ⟨rfl, hb2⟩)
  go_ret
  exact ⟨rfl, HX.out.2.trans (hb2.mono HX.out.2.size)⟩

set_option maxHeartbeats 400000 in
theorem ref_pass_yes (b : Nat) (h k : Int) (ek ev eh : Int) (w : World) (H : RefAt w b h k false) (h0 : 0 ≤ eh ∧ eh < 18446744073709551616) (k0 : 0 ≤ ek ∧ ek < 18446744073709551616) (hl : lessB eh ek h k = false) :
    Calls Tryd.prog 35 #[.pointer (some ⟨b, 0, none⟩), entV ek ev eh] w fun e w' => e = .returned (.int .i64 0) ∧ RefAt w' b (afterH ek eh) (afterK ek) (!afterB ek eh) ∧ But b w w' := by
  have HB := Lib.hid (fun W H => ref_behind b h k false ek ev eh W H h0 k0)
  rw [hl] at HB
  have HM := Lib.hid (fun W H => ref_pass_at b h k false eh ek W H h0 k0)
  have HH := Lib.hid H
  clear H hl h0 k0
  go_enter Tryd.func35, Tryd.ntmps35
  go_upto_region 1 with fail
  generalize hw1 : w.alloc (Obj.cells #[Value.int IntKind.u64 ek, Value.int IntKind.u64 ev, Value.int IntKind.u64 eh] 42) = w1
  have hB1 : Below w.heap.size w w1 := by subst hw1; exact (Below.refl _ _).alloc (Nat.le_refl _) _
  have hE1 : EntAt w1 w.heap.size ek ev eh := by subst hw1; exact Blk.new w _ _
  obtain ⟨c20, c21, c22⟩ := hE1.cells
  have HX := Lib.hid (And.intro (HH.out.below hB1) (And.intro hE1 hB1))
  clear hw1 hB1 hE1
  go_upto_region 3 with (go_at_call 39; refine (HB.out _ HX.out.1).mono ?_; rintro e w2 ⟨rfl, hb2⟩)
  have c3 := (HX.out.2.1.below hb2).cells
  obtain ⟨c30, c31, c32⟩ := c3
  go_wp2_with (go_at_call 59; refine (HM.out _ (HX.out.1.below hb2)).mono ?_; rintro e w4 ⟨rfl, hc4, hb4⟩)
  go_ret
  exact ⟨rfl, hc4, ((But.of HX.out.2.2).trans (But.of hb2)).trans hb4⟩

set_option maxHeartbeats 400000 in
theorem ref_skip_no (b : Nat) (h k : Int) (d : Bool) (eh : Int) (w : World) (H : RefAt w b h k d) (hl : (d || decide (eh < h)) = true) :
    Calls Tryd.prog 36 #[.pointer (some ⟨b, 0, none⟩), .int .u64 eh] w fun e w' => e = .returned (.int .i64 5) ∧ Below w.heap.size w w' := by
  have HA := Lib.hid (fun W H => ref_at b h k d W H)
  have HH := Lib.hid H
  clear H
  go_enter Tryd.func36, Tryd.ntmps36
  go_upto_region 2 with (go_at_call 38; refine (HA.out _ HH.out).mono ?_; rintro e w2 ⟨rfl, hb2⟩)
  obtain ⟨s, H, K, hB, r⟩ := HH.out.below hb2
  obtain ⟨c0, c1, c2, c3⟩ := refCells hB
  clear r hB
  cases d
  case true =>
    clear hl
    go_wp2
    go_ret
    exact ⟨rfl, hb2⟩
  case false =>
    have hl' : decide (eh < h) = true := hl
    clear hl
    go_wp2
    go_ret
    exact ⟨rfl, hb2⟩

set_option maxHeartbeats 400000 in
theorem ref_skip_yes (b : Nat) (h k : Int) (eh : Int) (w : World) (H : RefAt w b h k false) (h0 : 0 ≤ eh ∧ eh < 18446744073709551616) (hl : decide (eh < h) = false) :
    Calls Tryd.prog 36 #[.pointer (some ⟨b, 0, none⟩), .int .u64 eh] w fun e w' => e = .returned (.int .i64 0) ∧ RefAt w' b (afterH 18446744073709551615 eh) (afterK 18446744073709551615) (!afterB 18446744073709551615 eh) ∧ But b w w' := by
  have HA := Lib.hid (fun W H => ref_at b h k false W H)
  have HM := Lib.hid (fun W H => ref_pass_at b h k false eh 18446744073709551615 W H h0 (by decide))
  have HH := Lib.hid H
  clear H h0
  go_enter Tryd.func36, Tryd.ntmps36
  go_upto_region 2 with (go_at_call 38; refine (HA.out _ HH.out).mono ?_; rintro e w2 ⟨rfl, hb2⟩)
  obtain ⟨s, H, K, hB, r⟩ := HH.out.below hb2
  obtain ⟨c0, c1, c2, c3⟩ := refCells hB
  clear r hB
  go_wp2_with (go_at_call 59; refine (HM.out _ (HH.out.below hb2)).mono ?_; rintro e w4 ⟨rfl, hc4, hb4⟩)
  go_ret
  exact ⟨rfl, hc4, (But.of hb2).trans hb4⟩

end Go.Proofs.YtacdbgoffepaaaaDoor
