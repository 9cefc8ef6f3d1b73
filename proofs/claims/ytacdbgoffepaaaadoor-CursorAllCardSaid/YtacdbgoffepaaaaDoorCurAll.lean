/-
  amblerlaw23.CursorAll answers true: the walk.
-/
import Derived.Test.YtacdbgoffepaaaaDoorSortLaw
namespace Go.Proofs.YtacdbgoffepaaaaDoor
open Go.RowKit

/-- What the walk knows: the cursor, the last entry in its variable, the sorted row, an entry in a block. -/
def AllSt (w0 w : World) (b : Nat) (h k : Int) (d : Bool) (lb : Nat) (lk lv lh : Int) (g cs n : Nat) (S : List Ent3) : Prop :=
  OnAt w0 w b h k d lb lk lv lh ∧ w0.heap.size ≤ lb ∧ w.ownsRow w0.heap.size 42 3 (.slice (some ⟨g, 0, none⟩) n cs) n (flat S) ∧ g ≠ b ∧ g ≠ lb
def AllE (w0 w : World) (b : Nat) (h k : Int) (d : Bool) (lb : Nat) (lk lv lh : Int) (g cs n : Nat) (S : List Ent3) (eb : Nat) (xk xv xh : Int) : Prop :=
  AllSt w0 w b h k d lb lk lv lh g cs n S ∧ EntAt w eb xk xv xh ∧ eb ≠ b ∧ eb ≠ lb
theorem own_but {w w' : World} {base : Nat} {e : TypeId} {size g n cap b : Nat} {xs : List Value} (h : w.ownsRow base e size (.slice (some ⟨g, 0, none⟩) n cap) n xs) (hb : But b w w') (hne : g ≠ b) : w'.ownsRow base e size (.slice (some ⟨g, 0, none⟩) n cap) n xs := by
  refine ⟨h.1, ?_⟩
  rcases h.2 with h0 | ⟨g', cap', cur, hv, hb', hg, r⟩
  · exact Or.inl h0
  · injection hv with hv1 hv2 hv3
    injection hv1 with hv1
    injection hv1 with hv1
    subst hv1 hv3
    exact Or.inr ⟨g, cap, cur, rfl, hb', (hb.block g (lt_of_block hg) hne).trans hg, r⟩
section
variable {w0 w w' : World} {b lb g cs n eb : Nat} {h k h' k' lk lv lh xk xv xh : Int} {d d' : Bool} {S : List Ent3}
theorem AllSt.below (H : AllSt w0 w b h k d lb lk lv lh g cs n S) (hb : Below w.heap.size w w') : AllSt w0 w' b h k d lb lk lv lh g cs n S := ⟨H.1.below hb, H.2.1, own_below H.2.2.1 hb, H.2.2.2⟩
theorem AllSt.but (H : AllSt w0 w b h k d lb lk lv lh g cs n S) (hb : But b w w') (hc : CurAt w' b h' k' d') : AllSt w0 w' b h' k' d' lb lk lv lh g cs n S := ⟨H.1.but hb hc, H.2.1, own_but H.2.2.1 hb H.2.2.2.1, H.2.2.2⟩
theorem AllE.below (H : AllE w0 w b h k d lb lk lv lh g cs n S eb xk xv xh) (hb : Below w.heap.size w w') : AllE w0 w' b h k d lb lk lv lh g cs n S eb xk xv xh := ⟨H.1.below hb, EntAt.below H.2.1 hb, H.2.2⟩
theorem AllE.but (H : AllE w0 w b h k d lb lk lv lh g cs n S eb xk xv xh) (hb : But b w w') (hc : CurAt w' b h' k' d') : AllE w0 w' b h' k' d' lb lk lv lh g cs n S eb xk xv xh := ⟨H.1.but hb hc, Blk.but H.2.1 hb H.2.2.1, H.2.2⟩
theorem AllE.cells (H : AllE w0 w b h k d lb lk lv lh g cs n S eb xk xv xh) : (w.cell? ⟨lb, 0, none⟩ = some (.int .u64 lk) ∧ w.cell? ⟨lb, 1, none⟩ = some (.int .u64 lv) ∧ w.cell? ⟨lb, 2, none⟩ = some (.int .u64 lh)) ∧ w.cell? ⟨eb, 0, none⟩ = some (.int .u64 xk) ∧ w.cell? ⟨eb, 1, none⟩ = some (.int .u64 xv) ∧ w.cell? ⟨eb, 2, none⟩ = some (.int .u64 xh) :=
  ⟨H.1.1.ent.cells, H.2.1.cells⟩
theorem AllE.last (H : AllE w0 w b h k d lb lk lv lh g cs n S eb xk xv xh) : AllSt w0 (((w.setCell ⟨lb, 0, none⟩ (.int .u64 xk)).setCell ⟨lb, 1, none⟩ (.int .u64 xv)).setCell ⟨lb, 2, none⟩ (.int .u64 xh)) b h k d lb xk xv xh g cs n S := by
  have hB : But lb w (((w.setCell ⟨lb, 0, none⟩ (.int .u64 xk)).setCell ⟨lb, 1, none⟩ (.int .u64 xv)).setCell ⟨lb, 2, none⟩ (.int .u64 xh)) := (((But.refl _ _).set_ 0 _).set_ 1 _).set_ 2 _
  refine ⟨⟨Blk.but H.1.1.cur hB (Ne.symm H.1.1.ne), Blk.set_ (Blk.set_ (Blk.set_ H.1.1.ent 0 _) 1 _) 2 _, H.1.1.old.trans (hB.below H.1.2.1 H.1.1.old.size), H.1.1.lo, H.1.1.ne⟩, H.1.2.1, own_but H.1.2.2.1 hB H.1.2.2.2.2, H.1.2.2.2⟩
end
theorem own_cells3 {w : World} {base g cs n : Nat} {S : List Ent3} (H : w.ownsRow base 42 3 (.slice (some ⟨g, 0, none⟩) n cs) n (flat S)) (j : Nat) (hj : j < S.length) :
    w.cell? ⟨g, j * 3, none⟩ = some (.int .u64 (S[j]).key) ∧ w.cell? ⟨g, j * 3 + 1, none⟩ = some (.int .u64 (S[j]).val) ∧ w.cell? ⟨g, j * 3 + 2, none⟩ = some (.int .u64 (S[j]).hash) := by
  have h := H.cells (g := g) rfl
  refine ⟨?_, ?_, ?_⟩
  · have := h (j * 3 + 0) _ ((flat_get S j hj 0 (by decide)).trans rfl)
    rwa [Addr.add_mid, Nat.zero_add] at this
  · have := h (j * 3 + 1) _ ((flat_get S j hj 1 (by decide)).trans rfl)
    rwa [Addr.add_mid, Nat.zero_add] at this
  · have := h (j * 3 + 2) _ ((flat_get S j hj 2 (by decide)).trans rfl)
    rwa [Addr.add_mid, Nat.zero_add] at this

/-- Where the cursor stands behind j of the sorted entries. -/
def Stand (F : Nat → Ent3) (n j : Nat) (h k : Int) (d : Bool) (lk lv lh : Int) : Prop :=
  (j = 0 ∧ h = 0 ∧ k = 0 ∧ d = false) ∨ (0 < j ∧ (h = afterH (at3 F n (j - 1)).key (at3 F n (j - 1)).hash ∧ k = afterK (at3 F n (j - 1)).key ∧ d = !afterB (at3 F n (j - 1)).key (at3 F n (j - 1)).hash ∧ lk = (at3 F n (j - 1)).key ∧ lv = (at3 F n (j - 1)).val ∧ lh = (at3 F n (j - 1)).hash))

set_option maxHeartbeats 2000000 in
set_option maxRecDepth 100000 in
theorem all_walk (p : Option Addr) (n cap : Nat) (F : Nat → Ent3) (w : World) (ea : Addr) (hE : ErrAt w 1 ea) (hA : EntsAt w p n F) (hF : ∀ i, i < n → (F i).ok) (hn : n ≤ maxLen) :
    Calls Tryd.prog 4 #[.slice p n cap] w fun e w' => e = .returned (.bool true) ∧ Below w.heap.size w w' := by
  have HA := Lib.hid (And.intro hE (And.intro hA hF))
  clear hE hA hF
  go_enter Tryd.func4, Tryd.ntmps4
  go_upto_region 3 with (go_at_call 20; refine (alive23 _).mono ?_; rintro e w2 ⟨rfl, hb2⟩)
  have HK := Lib.hid hb2
  clear hb2
  by_cases h60 : 60 < n
  · have h60' : (60 : Int) < n := by omega
    clear h60
    go_wp2
    go_ret
    exact ⟨rfl, HK.out⟩
  · have h60' : (n : Int) ≤ 60 := by omega
    have h60n : n ≤ 60 := by omega
    clear h60
    go_upto_region 7 with (go_at_call 21; refine (cur_new _).mono ?_; rintro e w3 ⟨rfl, hc3, hb3⟩)
    generalize hw1 : w3.alloc (Obj.cells #[Value.int IntKind.u64 0, Value.int IntKind.u64 0, Value.int IntKind.u64 0] 42) = w1
    have hB1 : Below w3.heap.size w3 w1 := by subst hw1; exact (Below.refl _ _).alloc (Nat.le_refl _) _
    have hE1 : EntAt w1 w3.heap.size 0 0 0 := by subst hw1; exact Blk.new w3 _ _
    have HS0 := Lib.hid (show OnAt w w1 w2.heap.size 0 0 false w3.heap.size 0 0 0 ∧ w.heap.size ≤ w3.heap.size from ⟨⟨hc3.below hB1, hE1, (HK.out.trans (hb3.mono HK.out.size)).trans (hB1.mono (Nat.le_trans HK.out.size hb3.size)), HK.out.size, Nat.ne_of_gt hc3.lt⟩, Nat.le_trans HK.out.size hb3.size⟩)
    clear hc3 hb3 HK hw1 hB1 hE1
    generalize w2.heap.size = b at *
    generalize w3.heap.size = lb at *
    go_wp2_with (go_at_call 22; refine (sorted_any p n cap F _ (HA.out.2.1.below HS0.out.1.old) h60n).mono ?_; rintro e w4 ⟨g, cs, rfl, hown, hb4⟩)
    have HS1 := Lib.hid (show AllSt w w4 b 0 0 false lb 0 0 0 g cs n (sortTo F n) from ⟨HS0.out.1.below hb4, HS0.out.2, own_base hown HS0.out.1.old.size, by have := (own_lt hown).1; have := HS0.out.1.cur.lt; omega, by have := (own_lt hown).1; have := Blk.lt HS0.out.1.ent; omega⟩)
    have HCS := Lib.hid (own_lt hown)
    clear hown hb4 HS0
    go_loopw [20] (fun i wr => ∃ (j : Nat) (h k : Int) (d : Bool) (lk lv lh : Int), j ≤ n ∧ i = .int .i64 j ∧ Stand F n j h k d lk lv lh ∧ AllSt w wr b h k d lb lk lv lh g cs n (sortTo F n)) (fun i _ => n - (intOf i).toNat)
    case atStart => exact ⟨0, 0, 0, false, 0, 0, 0, by omega, rfl, Or.inl ⟨rfl, rfl, rfl, rfl⟩, HS1.out⟩
    case round =>
      obtain ⟨j, h, k, d, lk, lv, lh, hj, rfl, hst, hO⟩ := hrel
      by_cases hlt : j < n
      · have hcells := own_cells3 hO.2.2.1 j (by rw [sortTo_length]; exact hlt)
        rw [at3_get F n j hlt] at hcells
        obtain ⟨g0, g1, g2⟩ := hcells
        have hok := at3_ok F n j hlt HA.out.2.2
        obtain ⟨x, hx⟩ : ∃ x, x = at3 F n j := ⟨_, rfl⟩
        rw [← hx] at g0 g1 g2 hok
        have hfacts : ((d || lessB x.hash x.key h k) = false ∧ (j = 0 ∨ (0 < j ∧ lessB lh lk x.hash x.key = true))) ∨ ((d || lessB x.hash x.key h k) = true ∧ 0 < j ∧ lessB lh lk x.hash x.key = false ∧ h = afterH x.key x.hash ∧ k = afterK x.key ∧ d = !afterB x.key x.hash) := by
          rcases hst with ⟨rfl, rfl, rfl, rfl⟩ | ⟨hj0, rfl, rfl, rfl, rfl, rfl, rfl⟩
          · left
            have := hok
            unfold Ent3.ok at this
            refine ⟨?_, Or.inl rfl⟩
            simp [lessB]; omega
          · have hp := at3_ok F n (j - 1) (by omega) HA.out.2.2
            have hle := at3_le F n (j - 1) (by omega)
            rw [show j - 1 + 1 = j by omega, ← hx] at hle
            have hbn := beh_next x.hash x.key (at3 F n (j - 1)).hash (at3 F n (j - 1)).key hok.2.2.1 hok.2.2.2 hok.1 hok.2.1 hp.2.2.1 hp.2.2.2 hp.1 hp.2.1
            rw [hbn]
            clear hbn hp g0 g1 g2 hO
            generalize at3 F n (j - 1) = y at *
            by_cases hl : lessB y.hash y.key x.hash x.key = true
            · left; exact ⟨by rw [hl]; rfl, Or.inr ⟨hj0, hl⟩⟩
            · right
              have hl' : lessB y.hash y.key x.hash x.key = false := by simpa using hl
              have he : y.hash = x.hash ∧ y.key = x.key := by
                unfold Ent3.less lessB at hle
                unfold lessB at hl'
                simp only [Bool.or_eq_false_iff, Bool.and_eq_false_iff, decide_eq_false_iff_not, beq_eq_false_iff_ne] at hle hl'
                omega
              exact ⟨by rw [hl']; rfl, hj0, hl', by rw [he.1, he.2], by rw [he.2], by rw [he.1, he.2]⟩
        have hbx : (!afterB x.key x.hash || lessB x.hash x.key (afterH x.key x.hash) (afterK x.key)) = true := by
          rw [beh_next x.hash x.key x.hash x.key hok.2.2.1 hok.2.2.2 hok.1 hok.2.1 hok.2.2.1 hok.2.2.2 hok.1 hok.2.1, lessB_irrefl]; rfl
        have HXE := Lib.hid hx
        have HO := Lib.hid hO
        have HOK := Lib.hid hok
        have HBX := Lib.hid hbx
        have HFA := Lib.hid hfacts
        clear hO hok hst hbx hx hfacts
        have hcs1 : (n : Int) ≤ cs := by have := HCS.out; omega
        go_upto_region 10 with fail
        generalize hw5 : wr.alloc (Obj.cells #[Value.int IntKind.u64 x.key, Value.int IntKind.u64 x.val, Value.int IntKind.u64 x.hash] 42) = w5
        have hB5 : Below wr.heap.size wr w5 := by subst hw5; exact (Below.refl _ _).alloc (Nat.le_refl _) _
        have hE5 : EntAt w5 wr.heap.size x.key x.val x.hash := by subst hw5; exact Blk.new wr _ _
        have HS := Lib.hid (show AllE w w5 b h k d lb lk lv lh g cs n (sortTo F n) wr.heap.size x.key x.val x.hash from ⟨HO.out.below hB5, hE5, Nat.ne_of_gt HO.out.1.cur.lt, Nat.ne_of_gt (Blk.lt HO.out.1.ent)⟩)
        clear hw5 hB5 hE5 g0 g1 g2 HO
        generalize wr.heap.size = eb at *
        obtain ⟨⟨c0, c1, c2⟩, d0, d1, d2⟩ := HS.out.cells
        have X2 := Lib.hid (fun W H hE => cur_pass_no b (afterH x.key x.hash) (afterK x.key) (!afterB x.key x.hash) x.key x.val x.hash ea W H hE HBX.out)
        have X3 := Lib.hid (fun W H => cur_behind b (afterH x.key x.hash) (afterK x.key) (!afterB x.key x.hash) x.key x.val x.hash W H)
        rw [HBX.out] at X3
        have X4 := Lib.hid (fun W => before_any lk lv lh x.key x.val x.hash W)
        have HN := Lib.hid (show ∀ nh nk nd, nh = afterH x.key x.hash → nk = afterK x.key → nd = (!afterB x.key x.hash) → Stand F n (j + 1) nh nk nd x.key x.val x.hash from fun nh nk nd a1 a2 a3 => by
          refine Or.inr ⟨by omega, ?_⟩
          rw [Nat.add_sub_cancel, ← HXE.out]
          exact ⟨a1, a2, a3, rfl, rfl, rfl⟩)
        rcases HFA.out with ⟨hb, hj0⟩ | ⟨hb, hj0, hl0, rfl, rfl, rfl⟩
        · have hd : d = false := by cases d; rfl; simp at hb
          subst hd
          have hl : lessB x.hash x.key h k = false := by simpa using hb
          have X1 := Lib.hid (fun W H => cur_pass_yes b h k x.key x.val x.hash W H HOK.out.1 HOK.out.2.2.1 hl)
          clear hb hl
          have HN1 := Lib.hid (HN.out _ _ _ rfl rfl rfl)
          clear HN
          generalize afterH x.key x.hash = nh at *
          generalize afterK x.key = nk at *
          generalize (!afterB x.key x.hash) = nd at *
          rcases hj0 with rfl | ⟨hj0, hl0⟩
          · rw [show ((0 : Nat) : Int) = 0 from rfl] at *
            go_wp2_with (first
              | (go_at_call 23; have hcur := HS.out.1.1.cur; have herr := HA.out.1.same HS.out.1.1.old; (with_reducible refine (X4.out _).mono ?_); clear hcur herr; rintro e w5 ⟨rfl, hb5⟩; replace HS := Lib.hid (HS.out.below hb5); clear hb5; obtain ⟨⟨c0, c1, c2⟩, d0, d1, d2⟩ := HS.out.cells)
              | (go_at_call 24; have hcur := HS.out.1.1.cur; (with_reducible refine (X1.out _ hcur).mono ?_); clear hcur; rintro e w5 ⟨rfl, hc5, hb5⟩; replace HS := Lib.hid (HS.out.but hb5 hc5); clear hb5 hc5; obtain ⟨⟨c0, c1, c2⟩, d0, d1, d2⟩ := HS.out.cells)
              | (go_at_call 24; have hcur := HS.out.1.1.cur; have herr := HA.out.1.same HS.out.1.1.old; (with_reducible refine (X2.out _ hcur herr).mono ?_); clear hcur herr; rintro e w5 ⟨rfl, hb5⟩; replace HS := Lib.hid (HS.out.below hb5); clear hb5; obtain ⟨⟨c0, c1, c2⟩, d0, d1, d2⟩ := HS.out.cells)
              | (go_at_call 25; have hcur := HS.out.1.1.cur; have herr := HA.out.1.same HS.out.1.1.old; (with_reducible refine (X3.out _ hcur).mono ?_); clear hcur herr; rintro e w5 ⟨rfl, hb5⟩; replace HS := Lib.hid (HS.out.below hb5); clear hb5; obtain ⟨⟨c0, c1, c2⟩, d0, d1, d2⟩ := HS.out.cells; have f0 : w5.frozen? ⟨lb, 0, none⟩ = false := Blk.free HS.out.1.1.ent 0; have f1 : w5.frozen? ⟨lb, 1, none⟩ = false := Blk.free HS.out.1.1.ent 1; have f2 : w5.frozen? ⟨lb, 2, none⟩ = false := Blk.free HS.out.1.1.ent 2))
            go_roundw
            case rel => exact ⟨_, nh, nk, nd, _, _, _, by omega, by go_num, HN1.out, HS.out.last⟩
            case measure => simp [intOf]; omega
          · rw [hl0] at X4
            have hj1 : (0 : Int) < (j : Int) := by omega
            clear hl0 hj0
            go_wp2_with (first
              | (go_at_call 23; have hcur := HS.out.1.1.cur; have herr := HA.out.1.same HS.out.1.1.old; (with_reducible refine (X4.out _).mono ?_); clear hcur herr; rintro e w5 ⟨rfl, hb5⟩; replace HS := Lib.hid (HS.out.below hb5); clear hb5; obtain ⟨⟨c0, c1, c2⟩, d0, d1, d2⟩ := HS.out.cells)
              | (go_at_call 24; have hcur := HS.out.1.1.cur; (with_reducible refine (X1.out _ hcur).mono ?_); clear hcur; rintro e w5 ⟨rfl, hc5, hb5⟩; replace HS := Lib.hid (HS.out.but hb5 hc5); clear hb5 hc5; obtain ⟨⟨c0, c1, c2⟩, d0, d1, d2⟩ := HS.out.cells)
              | (go_at_call 24; have hcur := HS.out.1.1.cur; have herr := HA.out.1.same HS.out.1.1.old; (with_reducible refine (X2.out _ hcur herr).mono ?_); clear hcur herr; rintro e w5 ⟨rfl, hb5⟩; replace HS := Lib.hid (HS.out.below hb5); clear hb5; obtain ⟨⟨c0, c1, c2⟩, d0, d1, d2⟩ := HS.out.cells)
              | (go_at_call 25; have hcur := HS.out.1.1.cur; have herr := HA.out.1.same HS.out.1.1.old; (with_reducible refine (X3.out _ hcur).mono ?_); clear hcur herr; rintro e w5 ⟨rfl, hb5⟩; replace HS := Lib.hid (HS.out.below hb5); clear hb5; obtain ⟨⟨c0, c1, c2⟩, d0, d1, d2⟩ := HS.out.cells; have f0 : w5.frozen? ⟨lb, 0, none⟩ = false := Blk.free HS.out.1.1.ent 0; have f1 : w5.frozen? ⟨lb, 1, none⟩ = false := Blk.free HS.out.1.1.ent 1; have f2 : w5.frozen? ⟨lb, 2, none⟩ = false := Blk.free HS.out.1.1.ent 2))
            go_roundw
            case rel => exact ⟨_, nh, nk, nd, _, _, _, by omega, by go_num, HN1.out, HS.out.last⟩
            case measure => simp [intOf]; omega
        · rw [hl0] at X4
          have hj1 : (0 : Int) < (j : Int) := by omega
          have HN1 := Lib.hid (HN.out _ _ _ rfl rfl rfl)
          clear hl0 hj0 hb HN
          generalize afterH x.key x.hash = nh at *
          generalize afterK x.key = nk at *
          generalize (!afterB x.key x.hash) = nd at *
          go_wp2_with (first
            | (go_at_call 23; have hcur := HS.out.1.1.cur; have herr := HA.out.1.same HS.out.1.1.old; (with_reducible refine (X4.out _).mono ?_); clear hcur herr; rintro e w5 ⟨rfl, hb5⟩; replace HS := Lib.hid (HS.out.below hb5); clear hb5; obtain ⟨⟨c0, c1, c2⟩, d0, d1, d2⟩ := HS.out.cells)
            | (go_at_call 24; have hcur := HS.out.1.1.cur; have herr := HA.out.1.same HS.out.1.1.old; (with_reducible refine (X2.out _ hcur herr).mono ?_); clear hcur herr; rintro e w5 ⟨rfl, hb5⟩; replace HS := Lib.hid (HS.out.below hb5); clear hb5; obtain ⟨⟨c0, c1, c2⟩, d0, d1, d2⟩ := HS.out.cells)
            | (go_at_call 25; have hcur := HS.out.1.1.cur; have herr := HA.out.1.same HS.out.1.1.old; (with_reducible refine (X3.out _ hcur).mono ?_); clear hcur herr; rintro e w5 ⟨rfl, hb5⟩; replace HS := Lib.hid (HS.out.below hb5); clear hb5; obtain ⟨⟨c0, c1, c2⟩, d0, d1, d2⟩ := HS.out.cells; have f0 : w5.frozen? ⟨lb, 0, none⟩ = false := Blk.free HS.out.1.1.ent 0; have f1 : w5.frozen? ⟨lb, 1, none⟩ = false := Blk.free HS.out.1.1.ent 1; have f2 : w5.frozen? ⟨lb, 2, none⟩ = false := Blk.free HS.out.1.1.ent 2))
          go_roundw
          case rel => exact ⟨_, nh, nk, nd, _, _, _, by omega, by go_num, HN1.out, HS.out.last⟩
          case measure => simp [intOf]; omega
      · obtain rfl : j = n := by omega
        have HS2 := Lib.hid hO
        have HST := Lib.hid hst
        clear hO hst
        go_wp2_with fail
        go_loopw [55] (fun i wr => ∃ m : Nat, m ≤ j ∧ i = .int .i64 m ∧ AllSt w wr b h k d lb lk lv lh g cs j (sortTo F j)) (fun i _ => j - (intOf i).toNat)
        case atStart => exact ⟨0, by omega, rfl, HS2.out⟩
        case round =>
          obtain ⟨m, hm, rfl, hO⟩ := hrel
          by_cases hlt2 : m < j
          · obtain ⟨a, rfl, g0, g1, g2⟩ := (HA.out.2.1.below hO.1.old) m hlt2
            have hok := HA.out.2.2 m hlt2
            have hlast := at3_last F j m hlt2
            have hp := at3_ok F j (j - 1) (by omega) HA.out.2.2
            have hbe : (d || lessB (F m).hash (F m).key h k) = true := by
              rcases HST.out with ⟨h0, _⟩ | ⟨_, rfl, rfl, rfl, _⟩
              · omega
              · rw [beh_next _ _ _ _ hok.2.2.1 hok.2.2.2 hok.1 hok.2.1 hp.2.2.1 hp.2.2.2 hp.1 hp.2.1]
                have : lessB (at3 F j (j - 1)).hash (at3 F j (j - 1)).key (F m).hash (F m).key = false := hlast
                rw [this]; rfl
            clear hlast hp hok
            generalize F m = x at *
            have HO := Lib.hid hO
            have X2 := Lib.hid (fun W H hE => cur_pass_no b h k d x.key x.val x.hash ea W H hE hbe)
            have X3 := Lib.hid (fun W H => cur_behind b h k d x.key x.val x.hash W H)
            rw [hbe] at X3
            clear hO hbe
            go_upto_region 18 with fail
            generalize hw5 : wr.alloc (Obj.cells #[Value.int IntKind.u64 x.key, Value.int IntKind.u64 x.val, Value.int IntKind.u64 x.hash] 42) = w5
            have hB5 : Below wr.heap.size wr w5 := by subst hw5; exact (Below.refl _ _).alloc (Nat.le_refl _) _
            have hE5 : EntAt w5 wr.heap.size x.key x.val x.hash := by subst hw5; exact Blk.new wr _ _
            have HS := Lib.hid (show AllE w w5 b h k d lb lk lv lh g cs j (sortTo F j) wr.heap.size x.key x.val x.hash from ⟨HO.out.below hB5, hE5, Nat.ne_of_gt HO.out.1.cur.lt, Nat.ne_of_gt (Blk.lt HO.out.1.ent)⟩)
            clear hw5 hB5 hE5 g0 g1 g2 HO
            generalize wr.heap.size = eb at *
            obtain ⟨⟨c0, c1, c2⟩, d0, d1, d2⟩ := HS.out.cells
            go_wp2_with (first
              | (go_at_call 24; have hcur := HS.out.1.1.cur; have herr := HA.out.1.same HS.out.1.1.old; (with_reducible refine (X2.out _ hcur herr).mono ?_); clear hcur herr; rintro e w5 ⟨rfl, hb5⟩; replace HS := Lib.hid (HS.out.below hb5); clear hb5; obtain ⟨⟨c0, c1, c2⟩, d0, d1, d2⟩ := HS.out.cells)
              | (go_at_call 25; have hcur := HS.out.1.1.cur; have herr := HA.out.1.same HS.out.1.1.old; (with_reducible refine (X3.out _ hcur).mono ?_); clear hcur herr; rintro e w5 ⟨rfl, hb5⟩; replace HS := Lib.hid (HS.out.below hb5); clear hb5; obtain ⟨⟨c0, c1, c2⟩, d0, d1, d2⟩ := HS.out.cells))
            go_roundw
            case rel => exact ⟨m + 1, by omega, by go_num, HS.out.1⟩
            case measure => simp [intOf]; omega
          · obtain rfl : m = j := by omega
            have HO := Lib.hid hO
            clear hO
            go_wp2
            go_ret
            exact ⟨rfl, HO.out.1.old⟩

end Go.Proofs.YtacdbgoffepaaaaDoor
