/-
  A drawn region that puts one element behind each of two rows of different types, rows that were there before: an invariant over every order.
-/
import Derived.Test.YtacdbgoffepaaaaDoorItO
namespace Go.Proofs.YtacdbgoffepaaaaDoor
open Go.RowKit Go.Lib

/-- One of the two rows: ib makes a row of the element, ia appends it. -/
structure Half (B : Nat) (e : TypeId) (v : Value) (k : Nat) (xs : List Value) (x : Value) (ib ia : Nat) (listed : Array Bool) (a : Act) (w : World) : Prop where
  r0 : listed.getD ia false = false → w.ownsRow B e 1 v k xs
  r1 : listed.getD ib false = true → listed.getD ia false = false → w.ownsRow B e 1 (a.eval (.tmp (35 + ib))) 1 [x]
  r2 : listed.getD ia false = true → w.ownsRow B e 1 (a.eval (.tmp (35 + ia))) (k + 1) (xs ++ [x])
section
variable {P : Program} {ops : Array Oper} {Q : Exit → Act → World → Prop}
variable {B : Nat} {e : TypeId} {v : Value} {k : Nat} {xs : List Value} {x : Value} {ib ia i : Nat} {listed : Array Bool} {a : Act} {w w' w0 : World}
theorem Half.other (H : Half B e v k xs x ib ia listed a w) (hib : i ≠ ib) (hia : i ≠ ia) (u : Value) (hw : ∀ v n xs, w.ownsRow B e 1 v n xs → w'.ownsRow B e 1 v n xs) : Half B e v k xs x ib ia (listed.setIfInBounds i true) (a.put (some (35 + i)) u) w' := by
  refine ⟨fun h => ?_, fun h h2 => ?_, fun h => ?_⟩
  · rw [getD_set_ne false hia] at h
    exact hw _ _ _ (H.r0 h)
  · rw [getD_set_ne false hib] at h
    rw [getD_set_ne false hia] at h2
    rw [eval_put_ne (by omega)]
    exact hw _ _ _ (H.r1 h h2)
  · rw [getD_set_ne false hia] at h
    rw [eval_put_ne (by omega)]
    exact hw _ _ _ (H.r2 h)
theorem Half.build (H : Half B e v k xs x ib ia listed a w) (hne : ib ≠ ia) (hs : 35 + ib < a.tmps.size) (hB : B ≤ w.heap.size) : Half B e v k xs x ib ia (listed.setIfInBounds ib true) (a.put (some (35 + ib)) (.slice (some ⟨w.heap.size, 0, none⟩) 1 1)) (w.alloc (.cells #[x] e)) := by
  have hA : Below w.heap.size w (w.alloc (.cells #[x] e)) := (Below.refl _ _).alloc (Nat.le_refl _) _
  refine ⟨fun h => ?_, fun h h2 => ?_, fun h => ?_⟩
  · rw [getD_set_ne false hne] at h
    exact owns_old hA (H.r0 h)
  · rw [eval_put_eq hs]
    exact owns_base (World.ownsRow_lit w #[x] 1 (Nat.le_refl _) (by unfold maxLen; omega) (by simp)) hB
  · rw [getD_set_ne false hne] at h
    rw [eval_put_ne (by omega)]
    exact owns_old hA (H.r2 h)
theorem Half.app (hsz : ia < listed.size) (hs : 35 + ia < a.tmps.size) (u : Value) (h : w'.ownsRow B e 1 u (k + 1) (xs ++ [x])) : Half B e v k xs x ib ia (listed.setIfInBounds ia true) (a.put (some (35 + ia)) u) w' := by
  refine ⟨fun c => ?_, fun _ c => ?_, fun _ => ?_⟩
  · rw [getD_set_eq hsz] at c; cases c
  · rw [getD_set_eq hsz] at c; cases c
  · rw [eval_put_eq hs]; exact h
structure CInv (B : Nat) (w0 : World) (a0 : Act) (sq : Nat → Value) (listed : Array Bool) (a : Act) (w : World) : Prop where
  size : a.tmps.size = a0.tmps.size
  defers : a.defers = a0.defers
  keep : ∀ s : Nat, (s < 35 ∨ 49 ≤ s) → a.eval (.tmp s) = a0.eval (.tmp s)
  bel : Below B w0 w
  qs : ∀ j, j < 14 → (j ≠ 2 ∧ j ≠ 3 ∧ j ≠ 12 ∧ j ≠ 13) → listed.getD j false = true → a.eval (.tmp (35 + j)) = sq j
variable {a0 : Act} {sq : Nat → Value}
theorem CInv.step (H : CInv B w0 a0 sq listed a w) (hi : i < 14) (hts : 49 ≤ a0.tmps.size) (u : Value) (hb : Below B w0 w') (hq : (i ≠ 2 ∧ i ≠ 3 ∧ i ≠ 12 ∧ i ≠ 13) → u = sq i) : CInv B w0 a0 sq (listed.setIfInBounds i true) (a.put (some (35 + i)) u) w' := by
  refine ⟨by rw [put_size]; exact H.size, by rw [put_defers]; exact H.defers, fun s hs => ?_, hb, fun j hj hn hl => ?_⟩
  · have hne : 35 + i ≠ s := by rcases hs with hs | hs <;> omega
    rw [eval_put_ne hne]; exact H.keep s hs
  · by_cases hji : i = j
    · rw [← hji] at hn ⊢
      have hs : 35 + i < a.tmps.size := by rw [H.size]; omega
      rw [eval_put_eq hs]
      exact hq hn
    · rw [getD_set_ne false hji] at hl
      rw [eval_put_ne (by omega)]
      exact H.qs j hj hn hl
/-- A row of another type is kept. -/
theorem owns_ty {e' : TypeId} {B' n : Nat} {u : Value} {ys : List Value} (h : w.grownBy w' v.ownBlock) (hv : w.ownsRow B e 1 v k xs) (hu : w.ownsRow B' e' 1 u n ys) (hne : e ≠ e') : w'.ownsRow B' e' 1 u n ys := by
  refine owns_chg' (Chg.grown h) hu fun b hb hb2 => ?_
  rcases hv.2 with ⟨rfl, _⟩ | ⟨g, cap, cur, rfl, _, hg, _⟩
  · cases hb2
  · rcases hu.2 with ⟨rfl, _⟩ | ⟨g', cap', cur', rfl, _, hg', _⟩
    · cases hb
    · have e1 : g = b := Option.some.inj hb2
      have e2 : g' = b := Option.some.inj hb
      rw [e1] at hg
      rw [e2, hg] at hg'
      injection hg' with h1
      injection h1 with _ h2 _
      exact hne h2
/-- The whole. -/
structure CI (B : Nat) (w0 : World) (a0 : Act) (sq : Nat → Value) (e e2 : TypeId) (v v2 : Value) (k : Nat) (xs ys : List Value) (x y : Value) (listed : Array Bool) (a : Act) (w : World) : Prop where
  c : CInv B w0 a0 sq listed a w
  h : Half B e v k xs x 2 3 listed a w
  h2 : Half B e2 v2 k ys y 12 13 listed a w
variable {e2 : TypeId} {v2 : Value} {ys : List Value} {y : Value}
theorem CI.start (hB : Below B w0 w) (r : w.ownsRow B e 1 v k xs) (r2 : w.ownsRow B e2 1 v2 k ys) (n : Nat) : CI B w0 a0 sq e e2 v v2 k xs ys x y (Array.replicate n false) a0 w :=
  ⟨⟨rfl, rfl, fun _ _ => rfl, hB, fun j _ _ h => (by rw [getD_replicate_false] at h; cases h)⟩,
   ⟨fun _ => r, fun h => (by rw [getD_replicate_false] at h; cases h), fun h => (by rw [getD_replicate_false] at h; cases h)⟩,
   ⟨fun _ => r2, fun h => (by rw [getD_replicate_false] at h; cases h), fun h => (by rw [getD_replicate_false] at h; cases h)⟩⟩
theorem CI.quiet (H : CI B w0 a0 sq e e2 v v2 k xs ys x y listed a w) (hi : i < 14) (hn : i ≠ 2 ∧ i ≠ 3 ∧ i ≠ 12 ∧ i ≠ 13) (hts : 49 ≤ a0.tmps.size) {o : Oper} (ho : ops[i]? = some o) (hg : o.guard = none)
    (hrun : ∀ K : Act → World → Prop, K (a.put (some (35 + i)) (sq i)) w → o.wp P a w K Q) :
    wpOp P ops Q i (fun a' w' => CI B w0 a0 sq e e2 v v2 k xs ys x y (listed.setIfInBounds i true) a' w') a w :=
  wpOp_of ho hg (hrun _ ⟨H.c.step hi hts _ H.c.bel fun _ => rfl, H.h.other hn.1 hn.2.1 _ fun _ _ _ h => h, H.h2.other hn.2.2.1 hn.2.2.2 _ fun _ _ _ h => h⟩)
theorem CI.build (H : CI B w0 a0 sq e e2 v v2 k xs ys x y listed a w) (hB : B ≤ w0.heap.size) (hts : 49 ≤ a0.tmps.size) {o : Oper} (ho : ops[2]? = some o) (hg : o.guard = none)
    (hrun : ∀ K : Act → World → Prop, K (a.put (some (35 + 2)) (.slice (some ⟨w.heap.size, 0, none⟩) 1 1)) (w.alloc (.cells #[x] e)) → o.wp P a w K Q) :
    wpOp P ops Q 2 (fun a' w' => CI B w0 a0 sq e e2 v v2 k xs ys x y (listed.setIfInBounds 2 true) a' w') a w := by
  have hs := H.c.bel.size
  have hsz := H.c.size
  exact wpOp_of ho hg (hrun _ ⟨H.c.step (by omega) hts _ (H.c.bel.alloc (by omega) _) fun c => absurd rfl c.1, H.h.build (by omega) (by omega) (by omega), H.h2.other (by omega) (by omega) _ fun _ _ _ h => owns_old ((Below.refl _ _).alloc (Nat.le_refl _) _) h⟩)
theorem CI.build2 (H : CI B w0 a0 sq e e2 v v2 k xs ys x y listed a w) (hB : B ≤ w0.heap.size) (hts : 49 ≤ a0.tmps.size) {o : Oper} (ho : ops[12]? = some o) (hg : o.guard = none)
    (hrun : ∀ K : Act → World → Prop, K (a.put (some (35 + 12)) (.slice (some ⟨w.heap.size, 0, none⟩) 1 1)) (w.alloc (.cells #[y] e2)) → o.wp P a w K Q) :
    wpOp P ops Q 12 (fun a' w' => CI B w0 a0 sq e e2 v v2 k xs ys x y (listed.setIfInBounds 12 true) a' w') a w := by
  have hs := H.c.bel.size
  have hsz := H.c.size
  exact wpOp_of ho hg (hrun _ ⟨H.c.step (by omega) hts _ (H.c.bel.alloc (by omega) _) fun c => absurd rfl c.2.2.1, H.h.other (by omega) (by omega) _ fun _ _ _ h => owns_old ((Below.refl _ _).alloc (Nat.le_refl _) _) h, H.h2.build (by omega) (by omega) (by omega)⟩)
theorem wpOp_app {o : Oper} (ho : ops[i]? = some o) (hg : o.guard = none) (s t : Operand) (dT sT : TypeId) (hop : o.op = Op.call { callee := Callee.builtin Builtin.append, args := #[s, t], argTypes := #[dT, sT] })
    {u1 u2 u' : Value} (h1 : a.eval s = u1) (h2 : a.eval t = u2) (hr : (Builtin.append_ #[dT, sT] o.type #[u1, u2]).run P w = .ok u' w') {K : Act → World → Prop} (hK : K (a.put o.dst u') w') : wpOp P ops Q i K a w := by
  unfold wpOp
  simp only [ho]
  have hw : Region.wanted o (yielded ops a.tmps) = true := by simp [Region.wanted, hg]
  rw [if_pos hw]
  refine .inl ?_
  unfold Oper.wp
  simp [execOp, hop, resolve, invoke, builtin, h1, h2, hr, Result.andThen]
  exact hK
theorem CI.app (H : CI B w0 a0 sq e e2 v v2 k xs ys x y listed a w) (hB : B ≤ w0.heap.size) (hts : 49 ≤ a0.tmps.size) (hne : e ≠ e2) (hsz : 3 < listed.size) (hl0 : listed.getD 0 false = true) (hl2 : listed.getD 2 false = true) (hun : listed.getD 3 false = false) (hs0 : sq 0 = v) {o : Oper} (ho : ops[3]? = some o) (hg : o.guard = none) (dT sT : TypeId)
    (hop : o.op = Op.call { callee := Callee.builtin Builtin.append, args := #[.tmp 35, .tmp 37], argTypes := #[dT, sT] }) (hdst : o.dst = some 38)
    (hrun : ∀ u, w.ownsRow B e 1 v k xs → ArgAt w 1 u 1 [x] → ∃ v' w', (Builtin.append_ #[dT, sT] o.type #[v, u]).run P w = .ok v' w' ∧ w'.ownsRow B e 1 v' (k + 1) (xs ++ [x]) ∧ w.grownBy w' v.ownBlock ∧ (v'.ownBlock = v.ownBlock ∨ v'.ownBlock = some w.heap.size)) :
    wpOp P ops Q 3 (fun a' w' => CI B w0 a0 sq e e2 v v2 k xs ys x y (listed.setIfInBounds 3 true) a' w') a w := by
  have hs := H.c.bel.size
  have hsz2 := H.c.size
  have r0 := H.h.r0 hun
  have r1 := H.h.r1 hl2 hun
  have q0 : a.eval (.tmp 35) = v := (H.c.qs 0 (by omega) (by omega) hl0).trans hs0
  obtain ⟨v', w', g1, g2, g3, g4⟩ := hrun _ r0 (ArgAt.of_row r1)
  refine wpOp_app ho hg (.tmp 35) (.tmp 37) dT sT hop q0 rfl g1 ?_
  rw [hdst]
  exact ⟨H.c.step (by omega) hts _ (H.c.bel.trans ((Chg.grown g3).below (fun k hk => (r0.lt k hk).1) (by omega))) fun c => absurd rfl c.2.1, Half.app hsz (by omega) _ g2, H.h2.other (by omega) (by omega) _ fun _ _ _ h => owns_ty g3 r0 h hne⟩
theorem CI.app2 (H : CI B w0 a0 sq e e2 v v2 k xs ys x y listed a w) (hB : B ≤ w0.heap.size) (hts : 49 ≤ a0.tmps.size) (hne : e ≠ e2) (hsz : 13 < listed.size) (hl0 : listed.getD 4 false = true) (hl2 : listed.getD 12 false = true) (hun : listed.getD 13 false = false) (hs0 : sq 4 = v2) {o : Oper} (ho : ops[13]? = some o) (hg : o.guard = none) (dT sT : TypeId)
    (hop : o.op = Op.call { callee := Callee.builtin Builtin.append, args := #[.tmp 39, .tmp 47], argTypes := #[dT, sT] }) (hdst : o.dst = some 48)
    (hrun : ∀ u, w.ownsRow B e2 1 v2 k ys → ArgAt w 1 u 1 [y] → ∃ v' w', (Builtin.append_ #[dT, sT] o.type #[v2, u]).run P w = .ok v' w' ∧ w'.ownsRow B e2 1 v' (k + 1) (ys ++ [y]) ∧ w.grownBy w' v2.ownBlock ∧ (v'.ownBlock = v2.ownBlock ∨ v'.ownBlock = some w.heap.size)) :
    wpOp P ops Q 13 (fun a' w' => CI B w0 a0 sq e e2 v v2 k xs ys x y (listed.setIfInBounds 13 true) a' w') a w := by
  have hs := H.c.bel.size
  have hsz2 := H.c.size
  have r0 := H.h2.r0 hun
  have r1 := H.h2.r1 hl2 hun
  have q0 : a.eval (.tmp 39) = v2 := (H.c.qs 4 (by omega) (by omega) hl0).trans hs0
  obtain ⟨v', w', g1, g2, g3, g4⟩ := hrun _ r0 (ArgAt.of_row r1)
  refine wpOp_app ho hg (.tmp 39) (.tmp 47) dT sT hop q0 rfl g1 ?_
  rw [hdst]
  exact ⟨H.c.step (by omega) hts _ (H.c.bel.trans ((Chg.grown g3).below (fun k hk => (r0.lt k hk).1) (by omega))) fun c => absurd rfl c.2.2.2, H.h.other (by omega) (by omega) _ fun _ _ _ h => owns_ty g3 r0 h (Ne.symm hne), Half.app hsz (by omega) _ g2⟩
end
end Go.Proofs.YtacdbgoffepaaaaDoor
