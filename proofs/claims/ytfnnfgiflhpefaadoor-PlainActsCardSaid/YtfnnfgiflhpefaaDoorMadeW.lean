/-
  amblerlaw26.made, by contract.
-/
import Derived.Test.YtfnnfgiflhpefaaDoorMade
namespace Go.Proofs.YtfnnfgiflhpefaaDoor
open Go.RowKit Go.Lib

theorem MAt.refrow {B f r ab : Nat} {w0 w : World} {most : Int} {l rl : List Pr2} {x : Act3} (H : MAt B w0 w f r most l rl ab x) : ∃ p c, w.cell? ⟨r, 1, none⟩ = some (.slice p rl.length c) := by
  obtain ⟨S, T, _, h2, _⟩ := H.ex
  obtain ⟨vk, vv, g1, g2, _⟩ := h2.ex
  obtain ⟨p, c, rfl, _⟩ := u64_row g2
  exact ⟨p, c, g1.cell 1⟩
/-- What made leaves. -/
def MadeTo (w w' : World) (n : Nat) (most : Int) (f r : Nat) : Prop := ∃ l rl, MSt w.heap.size w w' f r most l rl ∧ Rel l rl ∧ l.length ≤ n
theorem putNo_le (most : Int) (l : List Pr2) (key : Int) : putNo most l key ≤ 16 := by rw [putNo]; split <;> omega

theorem len_quiet {P : Program} {f : FuncId} {args : Array Value} {w : World} {v : Value} {q : Nat} (h : Calls P f args (w.drewN q) fun e w' => e = .returned v ∧ w.drewN q = w') : Calls P f args (w.drewN q) fun e w' => e = .returned v ∧ ∃ m, w' = w.drewN m := by
  refine h.mono ?_
  rintro e w' ⟨rfl, rfl⟩
  exact ⟨rfl, q, rfl⟩

set_option maxHeartbeats 4000000 in
set_option maxRecDepth 100000 in
theorem made_c (ea : Nat → Addr) (most : Int) (p : Option Addr) (n c : Nat) (acts : List Act3) (w : World) (hE : ErrsAt w ea) (hn : acts.length = n) (hA : Act3At w p acts) (hlen : n ≤ 100) :
    Calls Tryd.prog 7 #[.int .i64 most, .slice p n c] w fun e w' => ∃ f r, e = .returned (.tuple #[.pointer (some ⟨f, 0, none⟩), .pointer (some ⟨r, 0, none⟩), .bool true]) ∧ MadeTo w w' n most f r := by
  have HE := Lib.hid (And.intro hE (And.intro hn hA))
  clear hE hn hA
  have mixed : Tryd.prog.follows .mixedOrders = true := by kernel_rfl
  go_enter Tryd.func7, Tryd.ntmps7
  go_wp2_with fail
  refine (new_c most w).mono ?_
  rintro e w1 ⟨rfl, p1, b1⟩
  have hbA : Below w1.heap.size w1 (w1.alloc (.cells #[.int .i64 most, .slice none 0 0, .slice none 0 0] 42)) := (Below.refl _ _).alloc (Nat.le_refl _) _
  have hM : MSt w.heap.size w (w1.alloc (.cells #[.int .i64 most, .slice none 0 0, .slice none 0 0] 42)) w.heap.size w1.heap.size most [] [] := by
    have hlt := p1.lt _ p1.own
    refine ⟨⟨fun i => i = w.heap.size, fun i => i = w1.heap.size, p1.below hbA, ⟨⟨_, _, Blk.new _ _ _, World.ownsRow_nil _ _ _ _, World.ownsRow_nil _ _ _ _, fun k hk => (by cases hk), fun k hk => (by cases hk)⟩, rfl, fun k hk => by subst hk; simp, Nat.zero_le _⟩, fun i hi hj => by omega, fun i hi => by omega, fun i hi => by omega⟩, b1.trans (hbA.mono b1.size)⟩
  have HM := Lib.hid hM
  clear p1 b1 hbA hM
  go_wp2_with fail
  go_loopw [22] (fun s22 wr => ∃ (i : Nat) (l rl : List Pr2), i ≤ n ∧ s22 = .int .i64 i ∧ MSt w.heap.size w wr w.heap.size w1.heap.size most l rl ∧ Rel l rl ∧ l.length ≤ i) (fun s22 _ => n - (RowKit.intOf s22).toNat)
  case atStart => exact ⟨0, [], [], Nat.zero_le _, rfl, HM.out, Rel.nil, Nat.zero_le _⟩
  case round =>
    obtain ⟨i, l, rl, hi, rfl, hM, hR, hli⟩ := hrel
    by_cases hlt : i < n
    · have hlt1 : (i : Int) < n := by omega
      obtain ⟨a, rfl, k0, k1, k2⟩ := HE.out.2.2 i (by rw [HE.out.2.1]; exact hlt)
      obtain ⟨x, hx⟩ : ∃ x, x = acts[i]'(by rw [HE.out.2.1]; exact hlt) := ⟨_, rfl⟩
      rw [← hx] at k0 k1 k2
      have hb := hM.bel
      have d0 := (hb.cell (block_lt_of_cell k0)).trans k0
      have d1 := (hb.cell (p := ⟨(a.add (i * 3)).block, (a.add (i * 3)).off + 1, none⟩) (block_lt_of_cell k1)).trans k1
      have d2 := (hb.cell (p := ⟨(a.add (i * 3)).block, (a.add (i * 3)).off + 2, none⟩) (block_lt_of_cell k2)).trans k2
      have HS := Lib.hid (hM.act rfl x)
      have HR0 := Lib.hid hR
      have hw3 : IntKind.i64.wrap ((i : Int) + 1) = (i : Int) + 1 := by rw [IntKind.wrap_i64]; omega
      have hl1 : l.length < 1000 := by omega
      have hl2 : rl.length < 1000 := by have := hR.len; omega
      clear hM hR hb k0 k1 k2 hx
      by_cases z0 : x.kind = 0
      · have z := z0
        clear z0
        have hno := putNo_le most l x.key
        replace HS : Hid _ := Lib.hid (show MAt w.heap.size w (wr.alloc (.cells #[.int .i64 0, .int .u64 x.key, .int .u64 x.val] 58)) w.heap.size w1.heap.size most l rl wr.heap.size x by have h := HS.out; rw [z] at h; exact h)
        go_upto_region 7 with fail
        generalize wr.alloc (.cells #[.int .i64 0, .int .u64 x.key, .int .u64 x.val] 58) = W at HS ⊢
        generalize wr.heap.size = ab at HS ⊢
        replace HS := Lib.hid (HS.out.drew rfl)
        go_region_held3 (fun w' => w'.cell? ⟨ab, 1, none⟩ = some (.int .u64 x.key) ∧ w'.cell? ⟨ab, 2, none⟩ = some (.int .u64 x.val)) (exact HS.out.cells.2) (first
          | (go_at_call 13; refine (HS.out.put ea _ _ rfl HE.out.1 hl1).mono ?_; rintro e w5 ⟨rfl, h5⟩; replace HS := Lib.hid h5; clear h5)
          | (go_at_call 19; refine (num_errV ea _ hno _ (HE.out.1.below HS.out.bel (Nat.le_refl _))).mono ?_; rintro e w5 ⟨rfl, h5⟩; replace HS := Lib.hid (HS.out.below rfl h5); clear h5)
          | (go_at_call 20; refine (HS.out.putr _ _ rfl hl2).mono ?_; rw [HR0.out.no]; rintro e w5 ⟨rfl, rl2, hp, h5⟩; replace HS := Lib.hid h5; clear h5))
        have HR := Lib.hid (HR0.out.put hp)
        have hlen2 : (putL most l x.key x.val).length ≤ i + 1 := by have := putL_len (most := most) (key := x.key) (val := x.val) HR0.out.sort; omega
        clear hp HR0 hno z
        generalize putL most l x.key x.val = l2 at HS HR hlen2
        have hcg := HS.out.cells
        obtain ⟨g0, g1, g2⟩ := hcg
        go_wp2_with fail
        refine (HS.out.get x.key rfl).mono ?_
        rw [HR.out.look_]
        obtain ⟨v0, hv0⟩ : ∃ v0, v0 = (look rl2 x.key).getD 0 := ⟨_, rfl⟩
        obtain ⟨b0, hb0⟩ : ∃ b0, b0 = (look rl2 x.key).isSome := ⟨_, rfl⟩
        rw [← hv0, ← hb0]
        have HV := Lib.hid (And.intro hv0 hb0)
        clear hv0 hb0
        rintro e w7 ⟨rfl, h7⟩
        replace HS := Lib.hid h7
        clear h7 g0 g1 g2
        have hcg := HS.out.cells
        obtain ⟨g0, g1, g2⟩ := hcg
        go_wp2_with fail
        refine (HS.out.getr x.key).mono ?_
        rw [← HV.out.1, ← HV.out.2]
        rintro e w8 ⟨rfl, rfl⟩
        have hvv : (v0 == v0) = true := beq_iff_eq.2 rfl
        have hbb : (b0 == b0) = true := beq_iff_eq.2 rfl
        have hll : l2.length = rl2.length := HR.out.len
        have hrk := HS.out.refrow
        obtain ⟨pk, ck, hrk⟩ := hrk
        rw [← hll] at hrk
        clear g0 g1 g2
        go_upto_region 17 with fail
        have HLn := Lib.hid (fun q => (HS.out.below rfl (below_drewN (Below.refl _ _) q)).len)
        clear hll
        go_quiet ((go_at_call 24; exact len_quiet (HLn.out _)))
        go_wp2_with fail
        go_roundw
        case rel => exact ⟨i + 1, l2, rl2, by omega, rfl, (HS.out.forget).below rfl (below_drewN (Below.refl _ _) _), HR.out, hlen2⟩
        case measure => simp only [RowKit.intOf]; omega
      · by_cases z1 : x.kind = 1
        · have z := z1
          clear z0 z1
          replace HS : Hid _ := Lib.hid (show MAt w.heap.size w (wr.alloc (.cells #[.int .i64 1, .int .u64 x.key, .int .u64 x.val] 58)) w.heap.size w1.heap.size most l rl wr.heap.size x by have h := HS.out; rw [z] at h; exact h)
          go_upto_region 10 with fail
          generalize wr.alloc (.cells #[.int .i64 1, .int .u64 x.key, .int .u64 x.val] 58) = W at HS ⊢
          generalize wr.heap.size = ab at HS ⊢
          replace HS := Lib.hid (HS.out.drew rfl)
          go_region_held3 (fun w' => w'.cell? ⟨ab, 1, none⟩ = some (.int .u64 x.key)) (exact HS.out.cells.2.1) (first
            | (go_at_call 17; refine (HS.out.del _ rfl).mono ?_; rw [HR0.out.look_]; rintro e w5 ⟨rfl, h5⟩; replace HS := Lib.hid h5; clear h5)
            | (go_at_call 21; refine (HS.out.delr _ rfl).mono ?_; rintro e w5 ⟨rfl, h5⟩; replace HS := Lib.hid h5; clear h5))
          have HR := Lib.hid (HR0.out.del x.key)
          have hlen2 : (delP x.key l).length ≤ i + 1 := by rw [delP_length]; split <;> omega
          clear HR0 z
          generalize delP x.key l = l2 at HS HR hlen2
          generalize delP x.key rl = rl2 at HS HR
          have hcg := HS.out.cells
          obtain ⟨g0, g1, g2⟩ := hcg
          go_wp2_with fail
          refine (HS.out.get x.key rfl).mono ?_
          rw [HR.out.look_]
          obtain ⟨v0, hv0⟩ : ∃ v0, v0 = (look rl2 x.key).getD 0 := ⟨_, rfl⟩
          obtain ⟨b0, hb0⟩ : ∃ b0, b0 = (look rl2 x.key).isSome := ⟨_, rfl⟩
          rw [← hv0, ← hb0]
          have HV := Lib.hid (And.intro hv0 hb0)
          clear hv0 hb0
          rintro e w7 ⟨rfl, h7⟩
          replace HS := Lib.hid h7
          clear h7 g0 g1 g2
          have hcg := HS.out.cells
          obtain ⟨g0, g1, g2⟩ := hcg
          go_wp2_with fail
          refine (HS.out.getr x.key).mono ?_
          rw [← HV.out.1, ← HV.out.2]
          rintro e w8 ⟨rfl, rfl⟩
          have hvv : (v0 == v0) = true := beq_iff_eq.2 rfl
          have hbb : (b0 == b0) = true := beq_iff_eq.2 rfl
          have hll : l2.length = rl2.length := HR.out.len
          have hrk := HS.out.refrow
          obtain ⟨pk, ck, hrk⟩ := hrk
          rw [← hll] at hrk
          clear g0 g1 g2
          go_upto_region 17 with fail
          have HLn := Lib.hid (fun q => (HS.out.below rfl (below_drewN (Below.refl _ _) q)).len)
          clear hll
          go_quiet ((go_at_call 24; exact len_quiet (HLn.out _)))
          go_wp2_with fail
          go_roundw
          case rel => exact ⟨i + 1, l2, rl2, by omega, rfl, (HS.out.forget).below rfl (below_drewN (Below.refl _ _) _), HR.out, hlen2⟩
          case measure => simp only [RowKit.intOf]; omega
        · by_cases z2 : x.kind = 2
          · have z := z2
            clear z0 z1 z2
            replace HS : Hid _ := Lib.hid (show MAt w.heap.size w (wr.alloc (.cells #[.int .i64 2, .int .u64 x.key, .int .u64 x.val] 58)) w.heap.size w1.heap.size most l rl wr.heap.size x by have h := HS.out; rw [z] at h; exact h)
            go_wp2_with fail
            generalize wr.alloc (.cells #[.int .i64 2, .int .u64 x.key, .int .u64 x.val] 58) = W at HS ⊢
            generalize wr.heap.size = ab at HS ⊢
            refine (HS.out.clear rfl).mono ?_
            rintro e w5 ⟨rfl, h5⟩
            obtain ⟨⟨u1, u2, m1, m2⟩, m3, m4, h6⟩ := h5.reset rfl
            replace HS := Lib.hid h6
            clear h5 h6 HR0 z
            have HR : Hid (Rel [] []) := Lib.hid Rel.nil
            have hlen2 : ([] : List Pr2).length ≤ i + 1 := Nat.zero_le _
            have hcg := HS.out.cells
            obtain ⟨g0, g1, g2⟩ := hcg
            go_wp2_with fail
            refine (HS.out.get x.key rfl).mono ?_
            rw [HR.out.look_]
            obtain ⟨v0, hv0⟩ : ∃ v0, v0 = (look ([] : List Pr2) x.key).getD 0 := ⟨_, rfl⟩
            obtain ⟨b0, hb0⟩ : ∃ b0, b0 = (look ([] : List Pr2) x.key).isSome := ⟨_, rfl⟩
            rw [← hv0, ← hb0]
            have HV := Lib.hid (And.intro hv0 hb0)
            clear hv0 hb0
            rintro e w7 ⟨rfl, h7⟩
            replace HS := Lib.hid h7
            clear h7 g0 g1 g2
            have hcg := HS.out.cells
            obtain ⟨g0, g1, g2⟩ := hcg
            go_wp2_with fail
            refine (HS.out.getr x.key).mono ?_
            rw [← HV.out.1, ← HV.out.2]
            rintro e w8 ⟨rfl, rfl⟩
            have hvv : (v0 == v0) = true := beq_iff_eq.2 rfl
            have hbb : (b0 == b0) = true := beq_iff_eq.2 rfl
            have hll : ([] : List Pr2).length = ([] : List Pr2).length := HR.out.len
            have hrk := HS.out.refrow
            obtain ⟨pk, ck, hrk⟩ := hrk
            rw [← hll] at hrk
            clear g0 g1 g2
            go_upto_region 17 with fail
            have HLn := Lib.hid (fun q => (HS.out.below rfl (below_drewN (Below.refl _ _) q)).len)
            clear hll
            go_quiet ((go_at_call 24; exact len_quiet (HLn.out _)))
            go_wp2_with fail
            go_roundw
            case rel => exact ⟨i + 1, ([] : List Pr2), ([] : List Pr2), by omega, rfl, (HS.out.forget).below rfl (below_drewN (Below.refl _ _) _), HR.out, hlen2⟩
            case measure => simp only [RowKit.intOf]; omega
          · have y0 : (x.kind == 0) = false := beq_eq_false_iff_ne.2 z0
            have y1 : (x.kind == 1) = false := beq_eq_false_iff_ne.2 z1
            have y2 : (x.kind == 2) = false := beq_eq_false_iff_ne.2 z2
            have z := z0
            replace HS : Hid _ := Lib.hid (show MAt w.heap.size w (wr.alloc (.cells #[.int .i64 x.kind, .int .u64 x.key, .int .u64 x.val] 58)) w.heap.size w1.heap.size most l rl wr.heap.size x by have h := HS.out; exact h)
            go_wp2_with fail
            generalize wr.alloc (.cells #[.int .i64 x.kind, .int .u64 x.key, .int .u64 x.val] 58) = W at HS ⊢
            generalize wr.heap.size = ab at HS ⊢
            have HR := HR0
            have hlen2 : l.length ≤ i + 1 := by omega
            clear HR0 z z0 z1 z2 y0 y1 y2
            refine (HS.out.get x.key rfl).mono ?_
            rw [HR.out.look_]
            obtain ⟨v0, hv0⟩ : ∃ v0, v0 = (look rl x.key).getD 0 := ⟨_, rfl⟩
            obtain ⟨b0, hb0⟩ : ∃ b0, b0 = (look rl x.key).isSome := ⟨_, rfl⟩
            rw [← hv0, ← hb0]
            have HV := Lib.hid (And.intro hv0 hb0)
            clear hv0 hb0
            rintro e w7 ⟨rfl, h7⟩
            replace HS := Lib.hid h7
            clear h7
            have hcg := HS.out.cells
            obtain ⟨g0, g1, g2⟩ := hcg
            go_wp2_with fail
            refine (HS.out.getr x.key).mono ?_
            rw [← HV.out.1, ← HV.out.2]
            rintro e w8 ⟨rfl, rfl⟩
            have hvv : (v0 == v0) = true := beq_iff_eq.2 rfl
            have hbb : (b0 == b0) = true := beq_iff_eq.2 rfl
            have hll : l.length = rl.length := HR.out.len
            have hrk := HS.out.refrow
            obtain ⟨pk, ck, hrk⟩ := hrk
            rw [← hll] at hrk
            clear g0 g1 g2
            go_upto_region 17 with fail
            have HLn := Lib.hid (fun q => (HS.out.below rfl (below_drewN (Below.refl _ _) q)).len)
            clear hll
            go_quiet ((go_at_call 24; exact len_quiet (HLn.out _)))
            go_wp2_with fail
            go_roundw
            case rel => exact ⟨i + 1, l, rl, by omega, rfl, (HS.out.forget).below rfl (below_drewN (Below.refl _ _) _), HR.out, hlen2⟩
            case measure => simp only [RowKit.intOf]; omega
    · obtain rfl : i = n := by omega
      have hlt1 : ¬ (i : Int) < i := by omega
      have HS := Lib.hid (And.intro hM (And.intro hR hli))
      clear hM hR hli
      go_wp2_with fail
      go_ret3
      exact ⟨_, _, rfl, l, rl, HS.out.1, HS.out.2.1, HS.out.2.2⟩
end Go.Proofs.YtfnnfgiflhpefaaDoor
