/-
  Two records and their models beside each other; what two records, joined, hold (plain).
-/
import Derived.Test.YtajklhlgakpgiaaDTells
namespace Go.Proofs.Ytajklhlgakpgiaa
open Go.RowKit Go.Lib

/-! ### plain -/
theorem insR_perm (x : Int) (L : List Int) : (insR x L).Perm (x :: L) := by
  induction L with
  | nil => exact List.Perm.refl _
  | cons y L ih =>
    simp only [insR]
    split
    · exact (ih.cons y).trans (List.Perm.swap x y L)
    · exact List.Perm.refl _
theorem refL_perm (xs : List Int) : (refL xs).Perm (xs.map clampP) := by
  have : ∀ (xs L : List Int), (xs.foldl (fun L n => insR (clampP n) L) L).Perm (L ++ xs.map clampP) := by
    intro xs
    induction xs with
    | nil => intro L; simp
    | cons x xs ih =>
      intro L
      refine (ih _).trans ?_
      refine ((insR_perm (clampP x) L).append_right _).trans ?_
      simp only [List.map_cons, List.cons_append]
      exact List.perm_middle.symm
  simpa [refL] using this xs []
theorem clampP_id {n : Int} (h : 0 ≤ n ∧ n ≤ 1099511627776) : clampP n = n := by unfold clampP; omega
theorem refL_in (xs : List Int) : ∀ n ∈ refL xs, 0 ≤ n ∧ n ≤ 1099511627776 := fun n hn => by
  obtain ⟨y, _, rfl⟩ := List.mem_map.1 ((refL_perm xs).mem_iff.1 hn)
  exact clampP_in y
theorem refL_clamped (xs : List Int) : (refL xs).map clampP = refL xs := by
  have h := refL_in xs
  generalize refL xs = L at h
  induction L with
  | nil => rfl
  | cons x L ih =>
    rw [List.map_cons, clampP_id (h x (List.mem_cons_self ..)), ih fun n hn => h n (List.mem_cons_of_mem _ hn)]
/-- Two records joined: the record of the one's numbers and the other's list. -/
theorem join_note (a b : List Int) : joinL (noteL a) (noteL b) = noteL (a ++ refL b) := by
  refine ((noteL_CN a).join (noteL_CN b)).meet (noteL_CN (a ++ refL b)) fun q => ?_
  rw [List.map_append, List.map_append, List.count_append, List.count_append, refL_clamped]
  rw [(refL_perm b).count_eq q]
theorem refL_app (a M : List Int) : M.foldl (fun L n => insR (clampP n) L) (refL a) = refL (a ++ M) := by simp [refL]
theorem look_in {l : List Pr2} (h : SortP l) {x : Pr2} (hx : x ∈ l) : look l x.key = some x.val := by
  induction l with
  | nil => cases hx
  | cons y l ih =>
    have h1 := (List.pairwise_cons.1 h).1
    have h2 := (List.pairwise_cons.1 h).2
    simp only [look]
    rcases List.mem_cons.1 hx with rfl | hx
    · rw [if_pos rfl]
    · have := h1 x hx
      rw [if_neg (by omega)]
      exact ih h2 hx
theorem join_even {m : List Pr2} (h : SortP m) : ∀ x ∈ joinL m m, ∃ v : Int, x.val = v + v := fun x hx => by
  have h1 := look_in (joinL_sort (k := m) h) hx
  rw [joinL_look h h] at h1
  cases hl : look m x.key with
  | none => rw [hl] at h1; simp at h1
  | some v =>
    rw [hl] at h1
    simp only [Option.getD_some] at h1
    exact ⟨v, (Option.some.inj h1).symm⟩

/-! ### the records -/
structure RV (w : World) (T : Nat → Prop) (r : Nat) (v : Value) (L : List Int) : Prop where
  blk : Blk w r 33 #[v]
  row : w.ownsRow 0 3 1 v L.length (nums L)
  blkv : ∀ k, v.ownBlock = some k → T k ∧ k ≠ r
  own : T r
  lt : ∀ k, T k → k < w.heap.size
  small : L.length ≤ 1000
theorem RN.fix {w : World} {T : Nat → Prop} {r : Nat} {L : List Int} (H : RN w T r L) : ∃ v, RV w T r v L := by
  obtain ⟨v, h1, h2, h3⟩ := H.ex
  exact ⟨v, h1, h2, h3, H.own, H.lt, H.small⟩
theorem RV.rn {w : World} {T : Nat → Prop} {r : Nat} {v : Value} {L : List Int} (H : RV w T r v L) : RN w T r L := ⟨⟨v, H.blk, H.row, H.blkv⟩, H.own, H.lt, H.small⟩
theorem RV.chg {T S' : Nat → Prop} {w w' : World} {r : Nat} {v : Value} {L : List Int} (H : RV w T r v L) (h : Chg S' w w') (hn : ∀ k, T k → ¬ S' k) : RV w' T r v L :=
  ⟨h.blk H.blk (hn r H.own), owns_chg h H.row (fun k hk => hn k (H.blkv k hk).1), H.blkv, H.own, fun k hk => Nat.lt_of_lt_of_le (H.lt k hk) h.size, H.small⟩
theorem RV.below {T : Nat → Prop} {w w' : World} {r : Nat} {v : Value} {L : List Int} (H : RV w T r v L) (h : Below w.heap.size w w') : RV w' T r v L :=
  H.chg (S' := fun _ => False) (Chg.of h) fun _ _ h => h

structure Quad (w0 w : World) (r t o v : Nat) (vv : Value) (l : List Pr2) (n : Int) (L : List Int) (m : List Pr2) (k : Int) (M : List Int) : Prop where
  ex : ∃ S T U V : Nat → Prop, PR w S r l n ∧ RN w T t L ∧ PR w U o m k ∧ RV w V v vv M ∧ (∀ i, S i → ¬ T i ∧ ¬ U i ∧ ¬ V i) ∧ (∀ i, T i → ¬ U i ∧ ¬ V i) ∧ (∀ i, U i → ¬ V i) ∧ ∀ i, S i ∨ T i ∨ U i ∨ V i → w0.heap.size ≤ i
  bel : Below w0.heap.size w0 w
section
variable {w0 w w1 w' : World} {r t o v : Nat} {vv : Value} {l m : List Pr2} {n k : Int} {L M : List Int}
theorem Quad.of (H : MD w0 w1 r t l n L) (K : MD w1 w o v m k M) : ∃ vv, Quad w0 w r t o v vv l n L m k M := by
  obtain ⟨S, T, h1, h2, h3, h4, h5⟩ := H.ex
  obtain ⟨U, V, g1, g2, g3, g4, g5⟩ := K.ex
  obtain ⟨vv, g2⟩ := g2.fix
  have hs := H.bel.size
  refine ⟨vv, ⟨S, T, U, V, h1.below K.bel, h2.below K.bel, g1, g2, fun i hi => ⟨h3 i hi, fun c => ?_, fun c => ?_⟩, fun i hi => ⟨fun c => ?_, fun c => ?_⟩, g3, fun i hi => ?_⟩, H.bel.trans (K.bel.mono hs)⟩
  · have := h1.lt i hi; have := g4 i c; omega
  · have := h1.lt i hi; have := g5 i c; omega
  · have := h2.lt i hi; have := g4 i c; omega
  · have := h2.lt i hi; have := g5 i c; omega
  · rcases hi with c | c | c | c
    · exact h4 i c
    · exact h5 i c
    · have := g4 i c; omega
    · have := g5 i c; omega
theorem Quad.below (H : Quad w0 w r t o v vv l n L m k M) (hb : Below w.heap.size w w') : Quad w0 w' r t o v vv l n L m k M := by
  obtain ⟨S, T, U, V, h1, h2, h3, h4, h5⟩ := H.ex
  exact ⟨⟨S, T, U, V, h1.below hb, h2.below hb, h3.below hb, h4.below hb, h5⟩, H.bel.trans (hb.mono H.bel.size)⟩
theorem Quad.join (H : Quad w0 w r t o v vv l n L m k M) (hm : n + sumV m ≤ 1000000) (hl : l.length + m.length < 900) :
    Calls Try.prog 27 #[.pointer (some ⟨r, 0, none⟩), .pointer (some ⟨o, 0, none⟩)] w fun e w' => e = .returned (.tuple #[]) ∧ Quad w0 w' r t o v vv (joinL l m) (n + sumV m) L m k M := by
  obtain ⟨S, T, U, V, h1, h2, h3, h4, h5, h6, h7, h8⟩ := H.ex
  have hs := H.bel.size
  refine (join_c S U r o l m n k w h1 h3 hm hl).mono ?_
  rintro e w' ⟨rfl, S', p, ch, nw⟩
  refine ⟨rfl, ⟨S', T, U, V, p, h2.chg ch (fun i hi c => (h5 i c).1 hi), h3.chg ch (fun i hi c => (h5 i c).2.1 hi), h4.chg ch (fun i hi c => (h5 i c).2.2 hi), fun i hi => ?_, h6, h7, fun i hi => ?_⟩, H.bel.trans (ch.below (fun i hi => h8 i (.inl hi)) (by omega))⟩
  · rcases nw i hi with c | c
    · exact h5 i c
    · exact ⟨fun x => by have := h2.lt i x; omega, fun x => by have := h3.lt i x; omega, fun x => by have := h4.lt i x; omega⟩
  · rcases hi with c | c
    · rcases nw i c with c | c
      · exact h8 i (.inl c)
      · omega
    · exact h8 i (.inr c)
theorem Quad.note (H : Quad w0 w r t o v vv l n L m k M) (x : Int) (hl : L.length < 1000) :
    Calls Try.prog 28 #[.pointer (some ⟨t, 0, none⟩), .int .i64 x] w fun e w' => e = .returned (.tuple #[]) ∧ Quad w0 w' r t o v vv l n (insR (clampP x) L) m k M := by
  obtain ⟨S, T, U, V, h1, h2, h3, h4, h5, h6, h7, h8⟩ := H.ex
  have hs := H.bel.size
  refine (noter_c T t L x w h2 hl).mono ?_
  rintro e w' ⟨rfl, T', p, ch, nw⟩
  have ho := h2.own
  have ch : Chg T w w' := ch.mono fun i _ hi => hi ▸ ho
  refine ⟨rfl, ⟨S, T', U, V, h1.chg ch (fun i hi c => (h5 i hi).1 c), p, h3.chg ch (fun i hi c => (h6 i c).1 hi), h4.chg ch (fun i hi c => (h6 i c).2 hi), fun i hi => ⟨fun c => ?_, (h5 i hi).2⟩, fun i hi => ?_, h7, fun i hi => ?_⟩, H.bel.trans (ch.below (fun i hi => h8 i (.inr (.inl hi))) (by omega))⟩
  · rcases nw i c with x | x
    · exact (h5 i hi).1 x
    · have := h1.lt i hi; omega
  · rcases nw i hi with c | c
    · exact h6 i c
    · exact ⟨fun x => by have := h3.lt i x; omega, fun x => by have := h4.lt i x; omega⟩
  · rcases hi with c | c | c
    · exact h8 i (.inl c)
    · rcases nw i c with c | c
      · exact h8 i (.inr (.inl c))
      · omega
    · exact h8 i (.inr (.inr c))
theorem Quad.self (H : Quad w0 w r t o v vv l n L m k M) (hm : k + sumV m ≤ 1000000) (hl : m.length + m.length < 900) :
    Calls Try.prog 27 #[.pointer (some ⟨o, 0, none⟩), .pointer (some ⟨o, 0, none⟩)] w fun e w' => e = .returned (.tuple #[]) ∧ Quad w0 w' r t o v vv l n L (joinL m m) (k + sumV m) M := by
  obtain ⟨S, T, U, V, h1, h2, h3, h4, h5, h6, h7, h8⟩ := H.ex
  have hs := H.bel.size
  refine (join_c U U o o m m k k w h3 h3 hm hl).mono ?_
  rintro e w' ⟨rfl, U', p, ch, nw⟩
  refine ⟨rfl, ⟨S, T, U', V, h1.chg ch (fun i hi c => (h5 i hi).2.1 c), h2.chg ch (fun i hi c => (h6 i hi).1 c), p, h4.chg ch (fun i hi c => h7 i c hi), fun i hi => ⟨(h5 i hi).1, fun c => ?_, (h5 i hi).2.2⟩, fun i hi => ⟨fun c => ?_, (h6 i hi).2⟩, fun i hi => ?_, fun i hi => ?_⟩, H.bel.trans (ch.below (fun i hi => h8 i (.inr (.inr (.inl hi)))) (by omega))⟩
  · rcases nw i c with x | x
    · exact (h5 i hi).2.1 x
    · have := h1.lt i hi; omega
  · rcases nw i c with x | x
    · exact (h6 i hi).1 x
    · have := h2.lt i hi; omega
  · rcases nw i hi with c | c
    · exact h7 i c
    · intro x; have := h4.lt i x; omega
  · rcases hi with c | c | c | c
    · exact h8 i (.inl c)
    · exact h8 i (.inr (.inl c))
    · rcases nw i c with c | c
      · exact h8 i (.inr (.inr (.inl c)))
      · omega
    · exact h8 i (.inr (.inr (.inr c)))
theorem Quad.rowsR (H : Quad w0 w r t o v vv l n L m k M) : Calls Try.prog 22 #[.pointer (some ⟨r, 0, none⟩)] w fun e w' => ∃ v', e = .returned v' ∧ w'.ownsRow w.heap.size 42 2 v' l.length (flat2 l) ∧ Below w.heap.size w w' := by
  obtain ⟨S, T, U, V, h1, h2, h3, h4, _⟩ := H.ex
  exact rowsR_c S r l n w h1
theorem Quad.rowsO (H : Quad w0 w r t o v vv l n L m k M) : Calls Try.prog 22 #[.pointer (some ⟨o, 0, none⟩)] w fun e w' => ∃ v', e = .returned v' ∧ w'.ownsRow w.heap.size 42 2 v' m.length (flat2 m) ∧ Below w.heap.size w w' := by
  obtain ⟨S, T, U, V, h1, h2, h3, h4, _⟩ := H.ex
  exact rowsR_c U o m k w h3
theorem Quad.rowsT (H : Quad w0 w r t o v vv l n L m k M) {l' : List Pr2} (he : rle L = l') : Calls Try.prog 23 #[.pointer (some ⟨t, 0, none⟩)] w fun e w' => ∃ v', e = .returned v' ∧ w'.ownsRow w.heap.size 42 2 v' l'.length (flat2 l') ∧ Below w.heap.size w w' := by
  obtain ⟨S, T, U, V, h1, h2, h3, h4, _⟩ := H.ex
  have := rowsr_c T t L w h2
  rw [he] at this
  exact this
theorem Quad.rowsV (H : Quad w0 w r t o v vv l n L m k M) {l' : List Pr2} (he : rle M = l') : Calls Try.prog 23 #[.pointer (some ⟨v, 0, none⟩)] w fun e w' => ∃ v', e = .returned v' ∧ w'.ownsRow w.heap.size 42 2 v' l'.length (flat2 l') ∧ Below w.heap.size w w' := by
  obtain ⟨S, T, U, V, h1, h2, h3, h4, _⟩ := H.ex
  have := rowsr_c V v M w h4.rn
  rw [he] at this
  exact this
theorem Quad.manyR (H : Quad w0 w r t o v vv l n L m k M) : Calls Try.prog 13 #[.pointer (some ⟨r, 0, none⟩)] w fun e w' => e = .returned (.int .i64 n) ∧ w = w' := by
  obtain ⟨S, T, U, V, h1, h2, h3, h4, _⟩ := H.ex
  exact many_c S r l n w h1
theorem Quad.manyO (H : Quad w0 w r t o v vv l n L m k M) : Calls Try.prog 13 #[.pointer (some ⟨o, 0, none⟩)] w fun e w' => e = .returned (.int .i64 k) ∧ w = w' := by
  obtain ⟨S, T, U, V, h1, h2, h3, h4, _⟩ := H.ex
  exact many_c U o m k w h3
theorem Quad.cellT (H : Quad w0 w r t o v vv l n L m k M) : ∃ p c, w.cell? ⟨t, 0, none⟩ = some (.slice p L.length c) := by
  obtain ⟨S, T, U, V, h1, h2, h3, h4, _⟩ := H.ex
  obtain ⟨x, g1, g2, _⟩ := h2.ex
  obtain ⟨p, c, rfl, _⟩ := num_row g2
  exact ⟨p, c, g1.cell 0⟩
theorem Quad.cellV (H : Quad w0 w r t o v vv l n L m k M) : ∃ p c, vv = .slice p M.length c ∧ w.cell? ⟨v, 0, none⟩ = some (.slice p M.length c) := by
  obtain ⟨S, T, U, V, h1, h2, h3, h4, _⟩ := H.ex
  obtain ⟨p, c, e, _⟩ := num_row h4.row
  exact ⟨p, c, e, e ▸ h4.blk.cell 0⟩
theorem Quad.listV {p : Option Addr} {c : Nat} (H : Quad w0 w r t o v (.slice p M.length c) l n L m k M) : NumsAt w p M := by
  obtain ⟨S, T, U, V, h1, h2, h3, h4, _⟩ := H.ex
  obtain ⟨p', c', e, _, _, _, hR⟩ := num_row h4.row
  injection e with e1 _ _
  subst e1
  exact hR
end
theorem join_nil (r : Nat) (w : World) : Calls Try.prog 27 #[.pointer (some ⟨r, 0, none⟩), .pointer none] w fun e w' => e = .returned (.tuple #[]) ∧ w = w' := by
  go_enter Try.func27, Try.ntmps27
  go_wp2_with fail
  try simp only [Exit.inBlock, Exit.then]
  refine bodyPost_ret (results_none rfl _ _ _) rfl ?_
  exact ⟨rfl, rfl⟩
end Go.Proofs.Ytajklhlgakpgiaa
