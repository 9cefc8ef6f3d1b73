/-
  A function and its reference beside each other, act by act (amblerlaw26.made).
-/
import Derived.Test.YtfnnfgiflhpefaaDoorRefF
import Derived.Deep.RegionHeld3
namespace Go.Proofs.YtfnnfgiflhpefaaDoor
open Go.RowKit Go.Lib

theorem num_errV (ea : Nat → Addr) (k : Nat) (hk : k ≤ 16) (w : World) (hE : ErrsAt w ea) :
    Calls Tryd.prog 19 #[errV ea k] w fun e w' => e = .returned (.int .i64 k) ∧ Below w.heap.size w w' := by
  cases k with
  | zero => exact num_nil w
  | succ k =>
    rw [errV_succ]
    refine (num_err ea k (by omega) w hE).mono ?_
    rintro e w' ⟨rfl, h⟩
    exact ⟨by simp, h⟩

/-- A function, its reference and an act. -/
structure MAt (B : Nat) (w0 w : World) (f r : Nat) (most : Int) (l rl : List Pr2) (ab : Nat) (x : Act3) : Prop where
  ex : ∃ S T : Nat → Prop, PF w S f most l ∧ RF w T r most rl ∧ (∀ i, S i → ¬ T i) ∧ (∀ i, S i → B ≤ i) ∧ (∀ i, T i → B ≤ i) ∧ ¬ S ab ∧ ¬ T ab
  act : Blk w ab 58 #[.int .i64 x.kind, .int .u64 x.key, .int .u64 x.val]
  bel : Below B w0 w
/-- The same without an act. -/
structure MSt (B : Nat) (w0 w : World) (f r : Nat) (most : Int) (l rl : List Pr2) : Prop where
  ex : ∃ S T : Nat → Prop, PF w S f most l ∧ RF w T r most rl ∧ (∀ i, S i → ¬ T i) ∧ (∀ i, S i → B ≤ i) ∧ ∀ i, T i → B ≤ i
  bel : Below B w0 w
section
variable {B f r ab : Nat} {w0 w w' : World} {most : Int} {l rl : List Pr2} {x : Act3}
theorem MAt.forget (H : MAt B w0 w f r most l rl ab x) : MSt B w0 w f r most l rl := by
  obtain ⟨S, T, h1, h2, h3, h4, h5, _⟩ := H.ex
  exact ⟨⟨S, T, h1, h2, h3, h4, h5⟩, H.bel⟩
theorem MSt.below (H : MSt B w0 w f r most l rl) (hB : B = w0.heap.size) (hb : Below w.heap.size w w') : MSt B w0 w' f r most l rl := by
  obtain ⟨S, T, h1, h2, h3, h4, h5⟩ := H.ex
  exact ⟨⟨S, T, h1.below hb, h2.below hb, h3, h4, h5⟩, H.bel.trans (hb.mono (by have := H.bel.size; omega))⟩
theorem MSt.act (H : MSt B w0 w f r most l rl) (hB : B = w0.heap.size) (x : Act3) : MAt B w0 (w.alloc (.cells #[.int .i64 x.kind, .int .u64 x.key, .int .u64 x.val] 58)) f r most l rl w.heap.size x := by
  obtain ⟨S, T, h1, h2, h3, h4, h5⟩ := H.ex
  have hb : Below w.heap.size w (w.alloc (.cells #[.int .i64 x.kind, .int .u64 x.key, .int .u64 x.val] 58)) := (Below.refl _ _).alloc (Nat.le_refl _) _
  exact ⟨⟨S, T, h1.below hb, h2.below hb, h3, h4, h5, fun h => by have := h1.lt _ h; omega, fun h => by have := h2.lt _ h; omega⟩, Blk.new _ _ _, H.bel.trans (hb.mono (by have := H.bel.size; omega))⟩
theorem MAt.below (H : MAt B w0 w f r most l rl ab x) (hB : B = w0.heap.size) (hb : Below w.heap.size w w') : MAt B w0 w' f r most l rl ab x := by
  obtain ⟨S, T, h1, h2, h3, h4, h5, h6, h7⟩ := H.ex
  exact ⟨⟨S, T, h1.below hb, h2.below hb, h3, h4, h5, h6, h7⟩, H.act.below hb, H.bel.trans (hb.mono (by have := H.bel.size; omega))⟩
theorem MAt.drew (H : MAt B w0 w f r most l rl ab x) (hB : B = w0.heap.size) : MAt B w0 w.drew f r most l rl ab x := H.below hB (below_drew w)
theorem MAt.cells (H : MAt B w0 w f r most l rl ab x) : w.cell? ⟨ab, 0, none⟩ = some (.int .i64 x.kind) ∧ w.cell? ⟨ab, 1, none⟩ = some (.int .u64 x.key) ∧ w.cell? ⟨ab, 2, none⟩ = some (.int .u64 x.val) := ⟨H.act.cell 0, H.act.cell 1, H.act.cell 2⟩
theorem MAt.put (ea : Nat → Addr) (key val : Int) (H : MAt B w0 w f r most l rl ab x) (hB : B = w0.heap.size) (hE : ErrsAt w0 ea) (hl : l.length < 1000) :
    Calls Tryd.prog 13 #[.pointer (some ⟨f, 0, none⟩), .int .u64 key, .int .u64 val] w fun e w' => e = .returned (errV ea (putNo most l key)) ∧ MAt B w0 w' f r most (putL most l key val) rl ab x := by
  obtain ⟨S, T, h1, h2, h3, h4, h5, h6, h7⟩ := H.ex
  have hs := H.bel.size
  have ha := H.act.lt
  refine (put_c S f most l key val ea w h1 ((hE.below H.bel (by omega)).one 1 (by omega)) hl).mono ?_
  rintro e w' ⟨rfl, S', p, c, n⟩
  refine ⟨rfl, ⟨S', T, p, h2.chg c (fun i hi hsi => h3 i hsi hi), fun i hi ht => ?_, fun i hi => ?_, h5, fun hi => ?_, h7⟩, c.blk H.act h6, H.bel.trans (c.below h4 (by omega))⟩
  · rcases n i hi with c | c
    · exact h3 i c ht
    · have := h2.lt i ht; omega
  · rcases n i hi with c | c
    · exact h4 i c
    · omega
  · rcases n _ hi with c | c
    · exact h6 c
    · omega
theorem MAt.del (key : Int) (H : MAt B w0 w f r most l rl ab x) (hB : B = w0.heap.size) :
    Calls Tryd.prog 17 #[.pointer (some ⟨f, 0, none⟩), .int .u64 key] w fun e w' => e = .returned (.bool (look l key).isSome) ∧ MAt B w0 w' f r most (delP key l) rl ab x := by
  obtain ⟨S, T, h1, h2, h3, h4, h5, h6, h7⟩ := H.ex
  have hs := H.bel.size
  refine (delete_c S f most l key w h1).mono ?_
  rintro e w' ⟨rfl, p, c⟩
  exact ⟨rfl, ⟨S, T, p, h2.chg c (fun i hi hsi => h3 i hsi hi), h3, h4, h5, h6, h7⟩, c.blk H.act h6, H.bel.trans (c.below h4 (by omega))⟩
theorem MAt.clear (H : MAt B w0 w f r most l rl ab x) (hB : B = w0.heap.size) :
    Calls Tryd.prog 22 #[.pointer (some ⟨f, 0, none⟩)] w fun e w' => e = .returned (.tuple #[]) ∧ MAt B w0 w' f r most [] rl ab x := by
  obtain ⟨S, T, h1, h2, h3, h4, h5, h6, h7⟩ := H.ex
  have hs := H.bel.size
  refine (clear_c S f most l w h1).mono ?_
  rintro e w' ⟨rfl, p, c⟩
  exact ⟨rfl, ⟨S, T, p, h2.chg c (fun i hi hsi => h3 i hsi hi), h3, h4, h5, h6, h7⟩, c.blk H.act h6, H.bel.trans (c.below h4 (by omega))⟩
theorem MAt.putr (key val : Int) (H : MAt B w0 w f r most l rl ab x) (hB : B = w0.heap.size) (hl : rl.length < 1000) :
    Calls Tryd.prog 20 #[.pointer (some ⟨r, 0, none⟩), .int .u64 key, .int .u64 val] w fun e w' => e = .returned (.int .i64 (putNo most rl key)) ∧ ∃ rl', PutTo most rl key val rl' ∧ MAt B w0 w' f r most l rl' ab x := by
  obtain ⟨S, T, h1, h2, h3, h4, h5, h6, h7⟩ := H.ex
  have hs := H.bel.size
  have ha := H.act.lt
  refine (putr_c T r most rl key val w h2 hl).mono ?_
  rintro e w' ⟨rfl, T', rl', hp, p, c, n⟩
  have hr : ∀ i, i = r → T i := fun i hi => hi ▸ h2.own
  refine ⟨rfl, rl', hp, ⟨S, T', h1.chg c (fun i hi hsi => h3 i hi (hr i hsi)), p, fun i hi ht => ?_, h4, fun i hi => ?_, h6, fun hi => ?_⟩, c.blk H.act (fun e => h7 (hr _ e)), H.bel.trans (c.below (fun i hi => h5 i (hr i hi)) (by omega))⟩
  · rcases n i ht with c | c
    · exact h3 i hi c
    · have := h1.lt i hi; omega
  · rcases n i hi with c | c
    · exact h5 i c
    · omega
  · rcases n _ hi with c | c
    · exact h7 c
    · omega
theorem MAt.delr (key : Int) (H : MAt B w0 w f r most l rl ab x) (hB : B = w0.heap.size) :
    Calls Tryd.prog 21 #[.pointer (some ⟨r, 0, none⟩), .int .u64 key] w fun e w' => e = .returned (.bool (look rl key).isSome) ∧ MAt B w0 w' f r most l (delP key rl) ab x := by
  obtain ⟨S, T, h1, h2, h3, h4, h5, h6, h7⟩ := H.ex
  have hs := H.bel.size
  have ha := H.act.lt
  refine (delr_c T r most rl key w h2).mono ?_
  rintro e w' ⟨rfl, T', p, c, n⟩
  have hr : ∀ i, i = r → T i := fun i hi => hi ▸ h2.own
  refine ⟨rfl, ⟨S, T', h1.chg c (fun i hi hsi => h3 i hi (hr i hsi)), p, fun i hi ht => ?_, h4, fun i hi => ?_, h6, fun hi => ?_⟩, c.blk H.act (fun e => h7 (hr _ e)), H.bel.trans (c.below (fun i hi => h5 i (hr i hi)) (by omega))⟩
  · rcases n i ht with c | c
    · exact h3 i hi c
    · have := h1.lt i hi; omega
  · rcases n i hi with c | c
    · exact h5 i c
    · omega
  · rcases n _ hi with c | c
    · exact h7 c
    · omega
/-- Both rows of the reference made nil. -/
theorem MAt.reset (H : MAt B w0 w f r most l rl ab x) (hB : B = w0.heap.size) :
    (∃ u v, w.cell? ⟨r, 1, none⟩ = some u ∧ (w.setCell ⟨r, 1, none⟩ (.slice none 0 0)).cell? ⟨r, 2, none⟩ = some v) ∧ w.frozen? ⟨r, 1, none⟩ = false ∧ (w.setCell ⟨r, 1, none⟩ (.slice none 0 0)).frozen? ⟨r, 2, none⟩ = false ∧
      MAt B w0 ((w.setCell ⟨r, 1, none⟩ (.slice none 0 0)).setCell ⟨r, 2, none⟩ (.slice none 0 0)) f r most l [] ab x := by
  obtain ⟨S, T, h1, h2, h3, h4, h5, h6, h7⟩ := H.ex
  have hs := H.bel.size
  obtain ⟨vk, vv, g1, g2, g3, g4, g5⟩ := h2.ex
  have b2 := g1.set_ 1 (.slice none 0 0)
  have hC : Chg (fun i => i = r) w ((w.setCell ⟨r, 1, none⟩ (.slice none 0 0)).setCell ⟨r, 2, none⟩ (.slice none 0 0)) := ((Chg.refl (fun i => i = r) w).set_ (b := r) rfl _ _).set_ (b := r) rfl _ _
  have hr : ∀ i, i = r → T i := fun i hi => hi ▸ h2.own
  refine ⟨⟨vk, vv, g1.cell 1, b2.cell 2⟩, g1.free 1, b2.free 2, ⟨S, T, h1.chg hC (fun i hi hsi => h3 i hi (hr i hsi)), ⟨⟨_, _, b2.set_ 2 _, World.ownsRow_nil _ _ _ _, World.ownsRow_nil _ _ _ _, fun k hk => (by cases hk), fun k hk => (by cases hk)⟩, h2.own, fun k hk => Nat.lt_of_lt_of_le (h2.lt k hk) hC.size, Nat.zero_le _⟩, h3, h4, h5, h6, h7⟩, hC.blk H.act (fun e => h7 (hr _ e)), H.bel.trans (hC.below (fun i hi => h5 i (hr i hi)) (by omega))⟩
theorem MAt.get (key : Int) (H : MAt B w0 w f r most l rl ab x) (hB : B = w0.heap.size) :
    Calls Tryd.prog 16 #[.pointer (some ⟨f, 0, none⟩), .int .u64 key] w fun e w' => e = .returned (.tuple #[.int .u64 ((look l key).getD 0), .bool (look l key).isSome]) ∧ MAt B w0 w' f r most l rl ab x := by
  obtain ⟨S, T, h1, _⟩ := H.ex
  refine (get_c S f most l key w h1).mono ?_
  rintro e w' ⟨rfl, c⟩
  exact ⟨rfl, H.below hB c⟩
theorem MAt.getr (key : Int) (H : MAt B w0 w f r most l rl ab x) :
    Calls Tryd.prog 23 #[.pointer (some ⟨r, 0, none⟩), .int .u64 key] w fun e w' => e = .returned (.tuple #[.int .u64 ((look rl key).getD 0), .bool (look rl key).isSome]) ∧ w = w' := by
  obtain ⟨S, T, _, h2, _⟩ := H.ex
  exact getr_c T r most rl key w h2
theorem MAt.len (H : MAt B w0 w f r most l rl ab x) : Calls Tryd.prog 24 #[.pointer (some ⟨f, 0, none⟩)] w fun e w' => e = .returned (.int .i64 l.length) ∧ w = w' := by
  obtain ⟨S, T, h1, _⟩ := H.ex
  exact len_c S f most l w h1
end

/-- The program's list and the reference's say the same. -/
structure Rel (l rl : List Pr2) : Prop where
  sort : SortP l
  nodup : (keysR rl).Nodup
  len : l.length = rl.length
  look_ : ∀ q, look l q = look rl q
theorem Rel.nil : Rel [] [] := ⟨List.Pairwise.nil, by simp [keysR], rfl, fun _ => rfl⟩
theorem Rel.no {l rl : List Pr2} (H : Rel l rl) (most key : Int) : putNo most rl key = putNo most l key := by rw [putNo, putNo, H.look_, H.len]
theorem Rel.put {l rl rl' : List Pr2} {most key val : Int} (H : Rel l rl) (hp : PutTo most rl key val rl') : Rel (putL most l key val) rl' := by
  by_cases hok : okP most rl key
  · have hok' : (look l key).isSome = true ∨ (l.length : Int) < most := by rw [H.look_, H.len]; exact hok
    rw [putL, if_pos hok']
    refine ⟨insP_sort H.sort, hp.nodup H.nodup, ?_, fun q => ?_⟩
    · rw [insP_length H.sort, hp.len, H.look_, H.len]
      split
      · rfl
      · rename_i h
        rcases hok with c | c
        · exact absurd c h
        · rw [if_pos c]
    · rw [look_insP H.sort, (hp.look_ q).1 hok, H.look_]
  · have hok' : ¬ ((look l key).isSome = true ∨ (l.length : Int) < most) := by rw [H.look_, H.len]; exact hok
    rw [putL, if_neg hok']
    refine ⟨H.sort, hp.nodup H.nodup, ?_, fun q => by rw [(hp.look_ q).2 hok]; exact H.look_ q⟩
    rw [hp.len, H.len, if_neg (fun c => hok (.inl c)), if_neg (fun c => hok (.inr c))]
theorem Rel.del {l rl : List Pr2} (H : Rel l rl) (key : Int) : Rel (delP key l) (delP key rl) :=
  ⟨delP_sort H.sort, del_nodup H.nodup, by rw [delP_length, delP_length, H.look_, H.len], fun q => by rw [look_delP H.sort, look_delN H.nodup, H.look_]⟩
theorem putL_len {most key val : Int} {l : List Pr2} (h : SortP l) : (putL most l key val).length ≤ l.length + 1 := by
  rw [putL]
  split
  · rw [insP_length h]; split <;> omega
  · omega
end Go.Proofs.YtfnnfgiflhpefaaDoor
