/-
  The reference of the layer plain (amblerref26): Put at a key that is there, and where there is no room.
-/
import Derived.Test.YtfnnfgiflhpefaaDoorRefA
namespace Go.Proofs.YtfnnfgiflhpefaaDoor
open Go.RowKit Go.Lib

theorem row_nil (w : World) (e : TypeId) (z : Nat) : (w.alloc (.cells #[] e)).ownsRow w.heap.size e z (.slice (some ⟨w.heap.size, 0, none⟩) 0 0) 0 [] :=
  World.ownsRow_lit w #[] 0 (Nat.le_refl _) (by unfold maxLen; omega) (by simp)
/-- One cell of an own row, written. -/
theorem own_set {w : World} {B g n c k : Nat} {xs : List Int} (x : Int) (h : w.ownsRow B 33 1 (.slice (some ⟨g, 0, none⟩) n c) n (ints xs)) (hk : k < n) :
    (∃ v, w.cell? ⟨g, k, none⟩ = some v) ∧ w.frozen? ⟨g, k, none⟩ = false ∧ (w.setCell ⟨g, k, none⟩ (.int .u64 x)).ownsRow B 33 1 (.slice (some ⟨g, 0, none⟩) n c) n (ints (xs.set k x)) := by
  rcases h.2 with ⟨h0, _⟩ | ⟨g', cap, cur, h0, hb, hg, hc, hm, hs, ht⟩
  · cases h0
  · injection h0 with h1 h2 h3
    injection h1 with h1
    injection h1 with h1
    subst h1 h3
    refine ⟨?_, frozen_of_row w g k cur _ hg, ?_⟩
    · rw [cell_of_row w g k cur _ _ hg]
      exact ⟨_, Array.getElem?_eq_getElem (by omega)⟩
    · refine ⟨by have := h.1; simp [ints] at this ⊢; omega, .inr ⟨g, c, cur.setIfInBounds k (.int .u64 x), rfl, hb, Blk.set_ hg k _, hc, hm, by simpa using hs, ?_⟩⟩
      rw [Array.toList_setIfInBounds, List.take_set, ht, ints, ints, List.map_set]

theorem owns0 {w : World} {B z n : Nat} {e : TypeId} {v : Value} {xs : List Value} (h : w.ownsRow B e z v n xs) : w.ownsRow 0 e z v n xs := by
  refine ⟨h.1, ?_⟩
  rcases h.2 with c | ⟨g, cap, cur, rfl, hb, rest⟩
  · exact .inl c
  · exact .inr ⟨g, cap, cur, rfl, Nat.zero_le _, rest⟩

set_option maxHeartbeats 1000000 in
set_option maxRecDepth 100000 in
theorem putr_hit (T : Nat → Prop) (r : Nat) (most : Int) (l : List Pr2) (key val : Int) (k : Nat) (w : World) (H : RF w T r most l) (hf : FirstAt l key k) :
    Calls Tryd.prog 20 #[.pointer (some ⟨r, 0, none⟩), .int .u64 key, .int .u64 val] w fun e w' => e = .returned (.int .i64 0) ∧ ∃ T', RF w' T' r most (l.set k ⟨key, val⟩) ∧ Chg (fun i => i = r) w w' ∧ New w T T' := by
  have HF := Lib.hid (findr_hit T r most l key k w H hf)
  obtain ⟨vk, vv, h1, h2, h3, h4, h5⟩ := H.ex
  have hsm := H.small
  have hb1 : Below w.heap.size w (w.alloc (.cells #[] 33)) := (Below.refl _ _).alloc (Nat.le_refl _) _
  obtain ⟨v', w2, g1, g2, g3, g4⟩ := app_u64 w.heap.size 40 _ 0 [] (row_nil w 33 1) vv l.length (valsR l) ((ArgAt.of_row h3).below hb1) (by omega) (by simp)
  rw [Nat.zero_add, List.nil_append] at g2
  have hb2 : Below w.heap.size w w2 := hb1.trans ((Chg.grown g3).below (fun i hi => by have := (Option.some.inj hi); simp at this; omega) (by simp))
  obtain ⟨hkl, hke, _⟩ := hf
  obtain ⟨p, c, rfl, _, _, hown, hcells⟩ := u64_row g2
  obtain ⟨a, rfl, _⟩ := hcells k (by simp [valsR]; omega)
  obtain ⟨g, rfl⟩ : ∃ g, a = ⟨g, 0, none⟩ := by
    rcases g2.2 with ⟨h0, _⟩ | ⟨g', cap, cur, h0, _⟩
    · cases h0
    · injection h0 with h0
      injection h0 with h0
      exact ⟨g', h0⟩
  have hgB := hown g rfl
  obtain ⟨⟨old, hold⟩, hfr, hrow⟩ := own_set val g2 hkl
  have hrB : Blk w2 r 42 #[.int .i64 most, vk, vv] := h1.below hb2
  have hrg : r ≠ g := by have := H.lt r H.own; omega
  have hr3 : Blk (w2.setCell ⟨g, k, none⟩ (.int .u64 val)) r 42 #[.int .i64 most, vk, vv] := hrB.far (p := ⟨g, k, none⟩) hrg _
  have c2 := h1.cell 2
  have c2' := hr3.cell 2
  have f2' := hr3.free 2
  have hkl1 : (k : Int) < l.length := by omega
  have c2'' := (h1.alloc (.cells #[] 33)).cell 2
  obtain ⟨p3, c3, rfl, _⟩ := u64_row h3
  have HX := Lib.hid (And.intro H (And.intro h2 (And.intro h4 (And.intro h5 (And.intro hrow (And.intro hr3 (And.intro hb2 (And.intro hke hgB))))))))
  clear H h1 h2 h3 h4 h5 hrow hr3 hb2 hb1 g2 g3 g4 hrB hown hcells hke hgB
  go_enter Tryd.func20, Tryd.ntmps20
  go_wp2_with fail
  refine HF.out.mono ?_
  rintro e w' ⟨rfl, rfl⟩
  go_wp2_with (at_builtin; refine Lib.wpList_append_run _ rfl _ _ _ _ rfl _ _ rfl rfl _ _ g1 ?_)
  go_ret
  obtain ⟨H, h2, h4, h5, hrow, hr3, hb2, hke, hgB⟩ := HX.out
  refine ⟨rfl, fun i => T i ∨ i = g, ⟨⟨vk, .slice (some ⟨g, 0, none⟩) l.length c, hr3.set_ 2 _, ?_, ?_, fun i hi => ⟨.inl (h4 i hi).1, (h4 i hi).2⟩, fun i hi => ?_⟩, .inl H.own, ?_, by rw [List.length_set]; exact H.small⟩, ?_, ?_⟩
  · have hC : Chg (fun i => i = r) w ((w2.setCell ⟨g, k, none⟩ (.int .u64 val)).setCell ⟨r, 2, none⟩ (.slice (some ⟨g, 0, none⟩) l.length c)) :=
      ((((Chg.of hb2 : Chg (fun i => i = r ∨ w.heap.size ≤ i) w w2).set_ (.inr hgB) _ _).set_ (.inl rfl) _ _)).mono fun i hi c => c.elim id (fun c => by omega)
    have e : keysR (l.set k ⟨key, val⟩) = keysR l := by
      rw [keysR, keysR, List.map_set]
      have h9 : (l.map Pr2.key)[k]'(by rw [List.length_map]; exact hkl) = key := by rw [List.getElem_map]; exact hke
      show (l.map Pr2.key).set k key = l.map Pr2.key
      rw [← h9]
      exact List.set_getElem_self _
    rw [List.length_set, e]
    exact owns_chg hC h2 fun i hi => (h4 i hi).2
  · have e : valsR (l.set k ⟨key, val⟩) = (valsR l).set k val := by rw [valsR, valsR, List.map_set]
    rw [List.length_set, e]
    exact owns_chg (S := fun i => i = r) ((Chg.refl (fun i => i = r) _).set_ rfl _ _) (owns0 hrow) fun i hi c => by
      have : g = i := Option.some.inj hi
      omega
  · have : g = i := Option.some.inj hi
    exact ⟨.inr this.symm, by omega⟩
  · intro i hi
    have hs2 := hb2.size
    have hg := (hrow.lt g rfl).2
    rcases hi with hi | rfl
    · have := H.lt i hi
      simp [World.setCell]
      omega
    · simpa [World.setCell] using hg
  · exact ((((Chg.of hb2 : Chg (fun i => i = r ∨ w.heap.size ≤ i) w w2).set_ (.inr hgB) _ _).set_ (.inl rfl) _ _)).mono fun i hi c => c.elim id (fun c => by omega)
  · intro i hi
    rcases hi with hi | rfl
    · exact .inl hi
    · exact .inr hgB

set_option maxRecDepth 100000 in
theorem putr_full (T : Nat → Prop) (r : Nat) (most : Int) (l : List Pr2) (key val : Int) (w : World) (H : RF w T r most l) (hq : look l key = none) (hm : most ≤ l.length) :
    Calls Tryd.prog 20 #[.pointer (some ⟨r, 0, none⟩), .int .u64 key, .int .u64 val] w fun e w' => e = .returned (.int .i64 2) ∧ Below w.heap.size w w' := by
  have HF := Lib.hid (findr_none T r most l key w H hq)
  obtain ⟨vk, vv, h1, h2, h3, h4, h5⟩ := H.ex
  obtain ⟨p, c, rfl, _⟩ := u64_row h2
  have c0 := h1.cell 0
  have c1 := h1.cell 1
  have f1 := h1.free 1
  have hge : decide (most ≤ (l.length : Int)) = true := decide_eq_true hm
  have mixed : Tryd.prog.follows .mixedOrders = true := by kernel_rfl
  clear h1 h2 h3 h4 h5 hq H
  go_enter Tryd.func20, Tryd.ntmps20
  go_wp2_with fail
  refine HF.out.mono ?_
  rintro e w' ⟨rfl, rfl⟩
  go_upto_region 7 with fail
  go_quiet (fail)
  go_wp2_with fail
  go_ret
  exact ⟨rfl, below_drewN (Below.refl _ _) _⟩
end Go.Proofs.YtfnnfgiflhpefaaDoor
