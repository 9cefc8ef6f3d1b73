/-
  Regions that draw their order and make rows by builtin append: an invariant over every order. Each operation of the head hands back a value that is known, or a row of its own that is used up by one later operation; a tail in one forced order lies behind. Plain theorems over any program.
-/
import Derived.Test.YtacdbgoffepaaaaDoorItE
import Derived.Deep.AppendLies
namespace Go.Proofs.YtacdbgoffepaaaaDoor
open Go.RowKit Go.Lib

/-! ### changes within a set of blocks -/
structure Chg (S : Nat → Prop) (w w' : World) : Prop where
  os : w'.os = w.os
  tape : w'.tape = w.tape
  output : w'.output = w.output
  size : w.heap.size ≤ w'.heap.size
  block : ∀ k, k < w.heap.size → ¬ S k → w'.heap[k]? = w.heap[k]?
section
variable {S S' : Nat → Prop} {w w' w1 w2 : World} {B : Nat}
theorem Chg.of (h : Below w.heap.size w w') : Chg S w w' := ⟨h.os, h.tape, h.output, h.size, fun k hk _ => h.block k hk⟩
theorem Chg.refl (S : Nat → Prop) (w : World) : Chg S w w := Chg.of (Below.refl _ _)
theorem Chg.mono (h : Chg S w w') (hs : ∀ k, k < w.heap.size → S k → S' k) : Chg S' w w' := ⟨h.os, h.tape, h.output, h.size, fun k hk hn => h.block k hk fun c => hn (hs k hk c)⟩
theorem Chg.trans (h : Chg S w w1) (k : Chg S' w1 w2) (hs : ∀ i, S' i → S i ∨ w.heap.size ≤ i) : Chg S w w2 :=
  ⟨k.os.trans h.os, k.tape.trans h.tape, k.output.trans h.output, Nat.le_trans h.size k.size, fun i hi hn =>
    (k.block i (Nat.lt_of_lt_of_le hi h.size) fun c => (hs i c).elim hn (fun c => absurd hi (by omega))).trans (h.block i hi hn)⟩
theorem Chg.below (h : Chg S w w') (hs : ∀ k, S k → B ≤ k) (hB : B ≤ w.heap.size) : Below B w w' :=
  ⟨h.os, h.tape, h.output, h.size, fun k hk => h.block k (by omega) fun c => by have := hs k c; omega⟩
theorem Chg.blk (h : Chg S w w') {g : Nat} {t : TypeId} {cs : Array Value} (hb : Blk w g t cs) (hg : ¬ S g) : Blk w' g t cs := (h.block g hb.lt hg).trans hb
theorem Chg.set_ (h : Chg S w w1) {b : Nat} (hb : S b) (i : Nat) (u : Value) : Chg S w (w1.setCell ⟨b, i, none⟩ u) :=
  h.trans (S' := fun k => k = b) ⟨rfl, rfl, rfl, by simp [World.setCell], fun k _ hne => Below.heap_setCell _ _ _ _ hne⟩ fun i hi => .inl (hi ▸ hb)
theorem Chg.grown {v : Value} (h : w.grownBy w' v.ownBlock) : Chg (fun k => v.ownBlock = some k) w w' := ⟨h.os, h.tape, h.output, h.size, fun k hk hn => h.block k hk fun c => hn c.symm⟩
theorem Chg.but {b : Nat} (h : But b w w') : Chg (fun k => k = b) w w' := ⟨h.os, h.tape, h.output, h.size, fun k hk hn => h.block k hk hn⟩
end
/-- A row that no change reaches. -/
theorem owns_chg {S : Nat → Prop} {w w' : World} {e : TypeId} {z n : Nat} {v : Value} {xs : List Value} (h : Chg S w w') (hw : w.ownsRow 0 e z v n xs) (hn : ∀ k, v.ownBlock = some k → ¬ S k) : w'.ownsRow 0 e z v n xs := by
  refine ⟨hw.1, ?_⟩
  rcases hw.2 with c | ⟨g, cap, cur, rfl, hb, hg, rest⟩
  · exact .inl c
  · exact .inr ⟨g, cap, cur, rfl, hb, (h.block g (lt_of_block hg) (hn g rfl)).trans hg, rest⟩
theorem owns_old {w w' : World} {base z n : Nat} {e : TypeId} {v : Value} {xs : List Value} (h : Below w.heap.size w w') (hw : w.ownsRow base e z v n xs) : w'.ownsRow base e z v n xs := by
  refine ⟨hw.1, ?_⟩
  rcases hw.2 with c | ⟨g, cap, cur, rfl, hb, hg, rest⟩
  · exact .inl c
  · exact .inr ⟨g, cap, cur, rfl, hb, (h.block g (lt_of_block hg)).trans hg, rest⟩

section
variable {P : Program} {ops : Array Oper} {Q : Exit → Act → World → Prop} {md : Region.Mode}

theorem countP_lt {l : List Nat} {p q : Nat → Bool} (h : ∀ x, q x = true → p x = true) {i : Nat} (hi : i ∈ l) (hp : p i = true) (hq : q i = false) : l.countP q < l.countP p := by
  induction l with
  | nil => cases hi
  | cons x l ih =>
    rw [List.countP_cons, List.countP_cons]
    have hle : l.countP q ≤ l.countP p := List.countP_mono_left fun x _ => h x
    rcases List.mem_cons.1 hi with rfl | hm
    · rw [if_pos hp, hq]; simp; omega
    · have := ih hm
      by_cases hx : q x = true
      · rw [if_pos hx, if_pos (h x hx)]; omega
      · rw [if_neg hx]; split <;> omega

theorem wpAny_more (k : Nat) : ∀ (f : Nat) (listed : Array Bool) (a : Act) (w : World), wpAny P md ops Q f listed a w → wpAny P md ops Q (f + k) listed a w
  | 0, listed, a, w, h => wpAny_done h.1 h.2 _
  | f + 1, listed, a, w, h => by
    rw [show f + 1 + k = (f + k) + 1 by omega]
    exact ⟨h.1, fun i hi => wpOp_mono (fun a' w' h' => wpAny_more k f _ a' w' h') (h.2 i hi)⟩

/-- Edges that bind lead back. -/
def backB (ops : Array Oper) (n : Nat) : Bool := (List.range n).all fun i => match ops[i]? with | some o => o.after.all fun e => !Region.binds .any e || decide (e.on < i) | none => false

/-- Whether an operation waits for another one. -/
def depB (ops : Array Oper) (i j : Nat) : Bool := match ops[i]? with | some o => o.after.any fun e => Region.binds .any e && decide (e.on = j) | none => false
theorem dep {listed : Array Bool} {i : Nat} (hr : i ∈ Region.ready .any ops listed) (j : Nat) (h : depB ops i j = true) : listed.getD j false = true := by
  obtain ⟨_, o, ho, hall⟩ := mem_ready.1 hr
  unfold depB at h
  rw [ho] at h
  obtain ⟨e, he, h2⟩ := Array.any_eq_true'.1 h
  simp only [Bool.and_eq_true, decide_eq_true_eq] at h2
  rw [← h2.2]
  exact hall e he h2.1
/-- Each operation of the head, but for those of S, is waited for by a later one of the head or by the tail's first; the tail is a chain. -/
def sinkS (ops : Array Oper) (n : Nat) (S : List Nat) : Bool := (List.range n).all fun i => S.contains i || (List.range (n + 1)).any fun j => decide (i < j) && depB ops j i
def chainT (ops : Array Oper) (n : Nat) : Bool := (List.range ops.size).all fun t => decide (t ≤ n) || depB ops t (t - 1)
theorem waits {n : Nat} {S : List Nat} {listed : Array Bool} (hs : sinkS ops n S = true) (hc : chainT ops n = true) (inv : HeadInv .any ops n listed) (hn : n < ops.size) (hS : ∀ i ∈ S, listed.getD i false = true) :
    ∀ (d i : Nat), n - i = d → i < n → listed.getD i false = false → ∀ t, n ≤ t → t ∉ Region.ready .any ops listed := by
  intro d
  induction d using Nat.strongRecOn with
  | _ d ih =>
    intro i hd hi hun t ht hr
    have h1 := List.all_eq_true.1 hs i (List.mem_range.2 hi)
    rw [Bool.or_eq_true] at h1
    rcases h1 with h1 | h1
    · have := hS i (by simpa using h1)
      rw [hun] at this
      cases this
    · obtain ⟨j, hj, h2⟩ := List.any_eq_true.1 h1
      have hjn := List.mem_range.1 hj
      simp only [Bool.and_eq_true, decide_eq_true_eq] at h2
      obtain ⟨hij, hdep⟩ := h2
      by_cases hjt : j = n
      · subst hjt
        rcases Nat.lt_or_eq_of_le ht with hlt | rfl
        · have htl : t < ops.size := by
            obtain ⟨_, o, ho, _⟩ := mem_ready.1 hr
            exact (Array.getElem?_eq_some_iff.1 ho).1
          have h3 := List.all_eq_true.1 hc t (List.mem_range.2 htl)
          rw [Bool.or_eq_true] at h3
          rcases h3 with h3 | h3
          · have := of_decide_eq_true h3; omega
          · have h4 := dep hr (t - 1) h3
            have h5 := getD_both (inv.tail (t - 1) (by omega) (by omega))
            rw [h4] at h5
            cases h5
        · have := dep hr i hdep
          rw [hun] at this
          cases this
      · have hjun : listed.getD j false = false := by
          cases hl : listed.getD j false with
          | false => rfl
          | true =>
            unfold depB at hdep
            cases ho : ops[j]? with
            | none => rw [ho] at hdep; cases hdep
            | some o =>
              rw [ho] at hdep
              obtain ⟨e, he, h2⟩ := Array.any_eq_true'.1 hdep
              simp only [Bool.and_eq_true, decide_eq_true_eq] at h2
              have := inv.closed j o ho hl e he h2.1
              rw [h2.2, hun] at this
              cases this
        exact ih (n - j) (by omega) j rfl (by omega) hjun t ht hr

theorem any_inv {l : List Oper} (n : Nat) (S : List Nat) (Inv : Array Bool → Act → World → Prop) (hn : n < l.length)
    (hs : sinkS l.toArray n S = true) (hc : chainT l.toArray n = true) (hb : backB l.toArray n = true)
    (hfull : Region.seqB .any l.toArray (l.drop n).length n ((Array.range l.length).map fun i => decide (i < n)) = true)
    (step : ∀ listed a w i, i < n → listed.size = l.length → (∀ i ∈ S, listed.getD i false = true) → Inv listed a w → i ∈ Region.ready .any l.toArray listed → wpOp P l.toArray Q i (fun a' w' => Inv (listed.setIfInBounds i true) a' w') a w)
    (fin : ∀ listed a w, (∀ i, i < n → listed.getD i false = true) → listed.size = l.length → Inv listed a w → wpList P l.toArray Q (l.drop n) a w) :
    ∀ (f : Nat) (listed : Array Bool) (a : Act) (w : World), HeadInv .any l.toArray n listed → (∀ i ∈ S, listed.getD i false = true) → Inv listed a w → (List.range n).countP (fun i => !listed.getD i false) ≤ f → wpAny P .any l.toArray Q (f + (l.drop n).length) listed a w := by
  intro f
  induction f with
  | zero =>
    intro listed a w hi hS hv hcnt
    have hall : ∀ i, i < n → listed.getD i false = true := fun i hin => by
      have h1 : (List.range n).countP (fun i => !listed.getD i false) = 0 := by omega
      have := (List.countP_eq_zero.1 h1) i (List.mem_range.2 hin)
      simpa using this
    have hfl : listed = (Array.range l.length).map fun i => decide (i < n) := by
      have hsz : listed.size = l.length := by simpa using hi.size
      refine Array.ext (by simp [hsz]) fun i h1 h2 => ?_
      by_cases hin : i < n
      · have := hall i hin
        simp [h1] at this
        simp [this, hin]
      · have := hi.tail i (by omega) (by simpa using (hsz ▸ h1))
        simp [h1] at this
        simp [this, hin]
    rw [Nat.zero_add]
    refine wpAny_of_seq (l.drop n) n listed a w (fun j => by simp [List.getElem?_drop]) (by rw [hfl]; exact hfull) (fin listed a w hall (by simpa using hi.size) hv)
  | succ f ih =>
    intro listed a w hi hS hv hcnt
    by_cases hz : (List.range n).countP (fun i => !listed.getD i false) ≤ f
    · have := wpAny_more 1 _ _ _ _ (ih listed a w hi hS hv hz)
      rw [show f + 1 + (l.drop n).length = f + (l.drop n).length + 1 by omega]
      exact this
    · have hsz : listed.size = l.length := by simpa using hi.size
      have hex : ∃ i, i < n ∧ listed.getD i false = false := by
        refine Classical.byContradiction fun hno => hz ?_
        have h1 : (List.range n).countP (fun i => !listed.getD i false) = 0 := List.countP_eq_zero.2 fun i hi' => by
          have hin := List.mem_range.1 hi'
          have : listed.getD i false ≠ false := fun c => hno ⟨i, hin, c⟩
          simpa using this
        omega
      obtain ⟨i0, hi0, hun0⟩ := hex
      have hwait := waits hs hc hi (by simpa using hn) hS (n - i0) i0 rfl hi0 hun0
      have hne : Region.ready .any l.toArray listed ≠ [] := by
        have least : ∀ k, (∃ i, i < n ∧ i ≤ k ∧ listed.getD i false = false) → ∃ i, i < n ∧ listed.getD i false = false ∧ ∀ j, j < i → listed.getD j false = true := by
          intro k
          induction k with
          | zero => rintro ⟨i, h1, h2, h3⟩; exact ⟨i, h1, h3, fun j hj => by omega⟩
          | succ k ihk =>
            intro h
            by_cases hk : ∃ i, i < n ∧ i ≤ k ∧ listed.getD i false = false
            · exact ihk hk
            · obtain ⟨i, h1, h2, h3⟩ := h
              refine ⟨i, h1, h3, fun j hj => ?_⟩
              cases hx : listed.getD j false with
              | true => rfl
              | false => exact absurd ⟨j, by omega, by omega, hx⟩ hk
        obtain ⟨i, h1, h2, h3⟩ := least i0 ⟨i0, hi0, Nat.le_refl _, hun0⟩
        have hbi := List.all_eq_true.1 hb i (List.mem_range.2 h1)
        have hlt : i < l.toArray.size := by simp; omega
        have ho : l.toArray[i]? = some l.toArray[i] := Array.getElem?_eq_getElem hlt
        rw [ho] at hbi
        intro hr
        have : i ∈ Region.ready .any l.toArray listed := mem_ready.2 ⟨getD_in (by omega) h2, _, ho, fun e he hbe => by
          have := Array.all_eq_true_iff_forall_mem.1 hbi e he
          rw [hbe] at this
          exact h3 _ (by simpa using this)⟩
        rw [hr] at this
        cases this
      rw [show f + 1 + (l.drop n).length = f + (l.drop n).length + 1 by omega]
      refine ⟨fun h => absurd h hne, fun i hir => ?_⟩
      have hin : i < n := Nat.lt_of_not_le fun h => hwait i h hir
      have hun := (mem_ready.1 hir).1
      refine wpOp_mono (fun a' w' h' => ih _ a' w' (hi.set hir hin) (fun k hk => getD_set_true (hS k hk)) h' ?_) (step listed a w i hin hsz hS hv hir)
      have := countP_lt (l := List.range n) (p := fun j => !listed.getD j false) (q := fun j => !(listed.setIfInBounds i true).getD j false) (fun x hx => by
        cases hl : listed.getD x false with
        | false => rfl
        | true => rw [getD_set_true hl] at hx; exact hx) (List.mem_range.2 hin) (by simp [getD_both hun]) (by
        have : i < listed.size := by omega
        simp [this])
      omega

theorem region_inv {id : Nat} {a : Act} {w : World} {l : List Oper} (n : Nat) (Inv : Array Bool → Act → World → Prop) (hm : P.follows .mixedOrders = true) (hn : n < l.length)
    (hs : sinkS l.toArray n [] = true) (hc : chainT l.toArray n = true) (hb : backB l.toArray n = true)
    (hfull : Region.seqB .any l.toArray (l.drop n).length n ((Array.range l.length).map fun i => decide (i < n)) = true)
    (h0 : Inv (Array.replicate l.length false) a w.drew)
    (step : ∀ listed a w i, i < n → listed.size = l.length → Inv listed a w → i ∈ Region.ready .any l.toArray listed → wpOp P l.toArray Q i (fun a' w' => Inv (listed.setIfInBounds i true) a' w') a w)
    (fin : ∀ listed a w, (∀ i, i < n → listed.getD i false = true) → listed.size = l.length → Inv listed a w → wpList P l.toArray Q (l.drop n) a w) : (Code.region id l.toArray true).wp P Q a w := by
  refine wp_region_any hm ?_
  have inv0 : HeadInv .any l.toArray n (Array.replicate l.length false) :=
    ⟨by simp, fun j oj _ hl => (by rw [getD_replicate_false] at hl; cases hl), fun t _ ht => getD_in (by simpa using ht) (getD_replicate_false _ _)⟩
  have := any_inv n [] Inv hn hs hc hb hfull (fun listed a w i hi hsz _ hv hr => step listed a w i hi hsz hv hr) fin n (Array.replicate l.length false) a w.drew inv0 (fun i hi => by cases hi) h0 (by have := List.countP_le_length (p := fun i => !(Array.replicate l.length false).getD i false) (l := List.range n); simpa using this)
  rw [show n + (l.drop n).length = l.length by simp; omega] at this
  rw [show l.toArray.size = l.length by simp]
  exact this

/-! ### values and rows -/
inductive Sp where
  | q (v : Value)
  | r (m : Nat) (xs : List Value) (c : Nat)

structure RInv (B : Nat) (w0 : World) (e : TypeId) (z : Nat) (a0 : Act) (n : Nat) (d : Nat → Nat) (sp : Nat → Sp) (listed : Array Bool) (a : Act) (w : World) : Prop where
  size : a.tmps.size = a0.tmps.size
  defers : a.defers = a0.defers
  keep : ∀ s, (∀ j, j < n → d j ≠ s) → a.eval (.tmp s) = a0.eval (.tmp s)
  bel : Below B w0 w
  qs : ∀ j v, j < n → listed.getD j false = true → sp j = .q v → a.eval (.tmp (d j)) = v
  rs : ∀ j m xs c, j < n → listed.getD j false = true → sp j = .r m xs c → listed.getD c false = false → w.ownsRow B e z (a.eval (.tmp (d j))) m xs
  ne : ∀ j k m xs c m' xs' c', j < n → k < n → j ≠ k → listed.getD j false = true → listed.getD k false = true → sp j = .r m xs c → sp k = .r m' xs' c' → listed.getD c false = false → listed.getD c' false = false →
    ∀ b, (a.eval (.tmp (d j))).ownBlock = some b → (a.eval (.tmp (d k))).ownBlock ≠ some b

variable {B : Nat} {w0 w w' : World} {e : TypeId} {z : Nat} {a0 a : Act} {n : Nat} {d : Nat → Nat} {sp : Nat → Sp} {listed : Array Bool} {i : Nat}
theorem eval_put_ne {s t : Nat} (h : t ≠ s) (v : Value) : (a.put (some t) v).eval (.tmp s) = a.eval (.tmp s) := by
  simp [Act.put, Act.eval, Array.getElem?_setIfInBounds_ne h]
theorem eval_put_eq {t : Nat} (h : t < a.tmps.size) (v : Value) : (a.put (some t) v).eval (.tmp t) = v := by
  simp [Act.put, Act.eval, h]
theorem put_size (t : Option Nat) (v : Value) : (a.put t v).tmps.size = a.tmps.size := by
  cases t <;> simp [Act.put]
theorem put_defers (t : Option Nat) (v : Value) : (a.put t v).defers = a.defers := by
  cases t <;> simp [Act.put]
theorem getD_set_eq (h : i < listed.size) : (listed.setIfInBounds i true).getD i false = true := by simp [h]
theorem getD_unset {c : Nat} (h : (listed.setIfInBounds i true).getD c false = false) : listed.getD c false = false := by
  cases hl : listed.getD c false with
  | false => rfl
  | true => rw [getD_set_true hl] at h; cases h

/-- One operation more. -/
theorem RInv.adv (H : RInv B w0 e z a0 n d sp listed a w) (hi : i < n) (hsz : i < listed.size) (dinj : ∀ j k, j < n → k < n → j ≠ k → d j ≠ d k) (hd : ∀ j, j < n → d j < a0.tmps.size) (v : Value)
    (hb : Below B w0 w') (hq : ∀ u, sp i = .q u → v = u) (hr : ∀ m xs c, sp i = .r m xs c → w'.ownsRow B e z v m xs)
    (hk : ∀ k m xs c, k < n → k ≠ i → c ≠ i → listed.getD k false = true → sp k = .r m xs c → listed.getD c false = false → w.ownsRow B e z (a.eval (.tmp (d k))) m xs → w'.ownsRow B e z (a.eval (.tmp (d k))) m xs)
    (hne : ∀ m xs c k m' xs' c', sp i = .r m xs c → k < n → k ≠ i → c' ≠ i → listed.getD k false = true → sp k = .r m' xs' c' → listed.getD c' false = false → ∀ b, v.ownBlock = some b → (a.eval (.tmp (d k))).ownBlock ≠ some b) :
    RInv B w0 e z a0 n d sp (listed.setIfInBounds i true) (a.put (some (d i)) v) w' := by
  have hds : d i < a.tmps.size := by rw [H.size]; exact hd i hi
  have cne : ∀ c, (listed.setIfInBounds i true).getD c false = false → c ≠ i := fun c h e => by rw [e, getD_set_eq hsz] at h; cases h
  have old : ∀ k, k ≠ i → (listed.setIfInBounds i true).getD k false = true → listed.getD k false = true := fun k hk h => by rwa [getD_set_ne false (Ne.symm hk)] at h
  refine ⟨by rw [put_size]; exact H.size, by rw [put_defers]; exact H.defers, fun s hs => ?_, hb, fun j u hj hl hs => ?_, fun j m xs c hj hl hs hc => ?_, fun j k m xs c m' xs' c' hj hk' hjk hl hl' hs hs' hc hc' b => ?_⟩
  · rw [eval_put_ne (hs i hi)]; exact H.keep s hs
  · by_cases hji : j = i
    · subst hji; rw [eval_put_eq hds]; exact hq u hs
    · rw [eval_put_ne (dinj i j hi hj (Ne.symm hji))]; exact H.qs j u hj (old j hji hl) hs
  · by_cases hji : j = i
    · subst hji; rw [eval_put_eq hds]; exact hr m xs c hs
    · rw [eval_put_ne (dinj i j hi hj (Ne.symm hji))]
      exact hk j m xs c hj hji (cne c hc) (old j hji hl) hs (getD_unset hc) (H.rs j m xs c hj (old j hji hl) hs (getD_unset hc))
  · by_cases hji : j = i
    · subst hji
      rw [eval_put_eq hds, eval_put_ne (dinj j k hi hk' hjk)]
      exact hne m xs c k m' xs' c' hs hk' (Ne.symm hjk) (cne c' hc') (old k (Ne.symm hjk) hl') hs' (getD_unset hc') b
    · rw [eval_put_ne (dinj i j hi hj (Ne.symm hji))]
      by_cases hki : k = i
      · subst hki
        rw [eval_put_eq hds]
        intro h1 h2
        exact hne m' xs' c' j m xs c hs' hj hji (cne c hc) (old j hji hl) hs (getD_unset hc) b h2 h1
      · rw [eval_put_ne (dinj i k hi hk' (Ne.symm hki))]
        exact H.ne j k m xs c m' xs' c' hj hk' hjk (old j hji hl) (old k hki hl') hs hs' (getD_unset hc) (getD_unset hc') b

theorem wpOp_of {o : Oper} {K : Act → World → Prop} (ho : ops[i]? = some o) (hg : o.guard = none) (h : o.wp P a w K Q) : wpOp P ops Q i K a w := by
  unfold wpOp
  have hw : Region.wanted o (yielded ops a.tmps) = true := by simp [Region.wanted, hg]
  simp only [ho, hw, if_true]
  exact .inl h

/-- A quiet operation. -/
theorem RInv.quiet (H : RInv B w0 e z a0 n d sp listed a w) (hi : i < n) (hsz : i < listed.size) (dinj : ∀ j k, j < n → k < n → j ≠ k → d j ≠ d k) (hd : ∀ j, j < n → d j < a0.tmps.size) {o : Oper} {v : Value}
    (ho : ops[i]? = some o) (hg : o.guard = none) (hsp : sp i = .q v) (hrun : ∀ K : Act → World → Prop, K (a.put (some (d i)) v) w → o.wp P a w K Q) :
    wpOp P ops Q i (fun a' w' => RInv B w0 e z a0 n d sp (listed.setIfInBounds i true) a' w') a w :=
  wpOp_of ho hg (hrun _ (H.adv hi hsz dinj hd v H.bel (fun u h => by rw [hsp] at h; injection h) (fun m xs c h => by rw [hsp] at h; cases h) (fun k m xs c _ _ _ _ _ _ h => h) (fun m xs c _ _ _ _ h => by rw [hsp] at h; cases h)))

/-- A new block. -/
theorem RInv.build (H : RInv B w0 e z a0 n d sp listed a w) (hB : B = w0.heap.size) (hi : i < n) (hsz : i < listed.size) (dinj : ∀ j k, j < n → k < n → j ≠ k → d j ≠ d k) (hd : ∀ j, j < n → d j < a0.tmps.size) {o : Oper} {m : Nat} {xs : List Value} {c : Nat}
    (ho : ops[i]? = some o) (hg : o.guard = none) (hsp : sp i = .r m xs c) (hl : xs.length = m * z) (hm : m ≤ 1000)
    (hrun : ∀ K : Act → World → Prop, K (a.put (some (d i)) (.slice (some ⟨w.heap.size, 0, none⟩) m m)) (w.alloc (.cells xs.toArray e)) → o.wp P a w K Q) :
    wpOp P ops Q i (fun a' w' => RInv B w0 e z a0 n d sp (listed.setIfInBounds i true) a' w') a w := by
  have hs := H.bel.size
  have hA : Below w.heap.size w (w.alloc (.cells xs.toArray e)) := (Below.refl _ _).alloc (Nat.le_refl _) _
  have hlen : m * z ≤ m * z := Nat.le_refl _
  refine wpOp_of ho hg (hrun _ (H.adv hi hsz dinj hd _ (H.bel.alloc (by omega) _) (fun u h => by rw [hsp] at h; cases h) (fun m' xs' c' h => ?_) (fun k m xs c _ _ _ _ _ _ h => owns_old hA h) (fun m' xs' c' k m'' xs'' c'' _ hk hki hci hlk hsk hck b hb hb2 => ?_)))
  · rw [hsp] at h
    injection h with h1 h2 h3
    subst h1 h2
    exact ⟨hl, .inr ⟨w.heap.size, m, xs.toArray, rfl, by omega, Blk.new _ _ _, Nat.le_refl _, by unfold maxLen; omega, by simpa using hl, by simp [← hl]⟩⟩
  · have hb' : w.heap.size = b := Option.some.inj hb
    have := ((H.rs k m'' xs'' c'' hk hlk hsk hck).lt b hb2).2
    omega

/-- A row of values that lies in a world. -/
def CellsAt (w : World) (ad : Option Addr) (news : List Value) : Prop := news = [] ∨ ∃ a, ad = some a ∧ ∀ j u, news[j]? = some u → w.cell? (a.add j) = some u

theorem owns_chg' {S : Nat → Prop} {w w' : World} {B : Nat} {e : TypeId} {z n : Nat} {v : Value} {xs : List Value} (h : Chg S w w') (hw : w.ownsRow B e z v n xs) (hn : ∀ k, v.ownBlock = some k → ¬ S k) : w'.ownsRow B e z v n xs := by
  refine ⟨hw.1, ?_⟩
  rcases hw.2 with c | ⟨g, cap, cur, rfl, hb, hg, rest⟩
  · exact .inl c
  · exact .inr ⟨g, cap, cur, rfl, hb, (h.block g (lt_of_block hg) (hn g rfl)).trans hg, rest⟩

/-- An append onto a row of the region's own. -/
theorem RInv.append (H : RInv B w0 e z a0 n d sp listed a w) (hB : B = w0.heap.size) (hi : i < n) (hsz : i < listed.size) (dinj : ∀ j k, j < n → k < n → j ≠ k → d j ≠ d k) (hd : ∀ j, j < n → d j < a0.tmps.size) {o : Oper} {m m1 c : Nat} {xs1 news : List Value}
    {j1 : Nat} (hj1 : j1 < n) (hl1 : listed.getD j1 false = true) (hs1 : sp j1 = .r m1 xs1 i) (hun : listed.getD i false = false) (hij : j1 ≠ i)
    (ho : ops[i]? = some o) (hg : o.guard = none) (x : Operand) (dT sT : TypeId) (hop : o.op = Op.call { callee := Callee.builtin Builtin.append, args := #[.tmp (d j1), x], argTypes := #[dT, sT] }) (hdst : o.dst = some (d i))
    (u : Value) (hx : a.eval x = u) (hsp : sp i = .r m (xs1 ++ news) c)
    (hrun : ∀ v, w.ownsRow B e z v m1 xs1 → ∃ v' w', (Builtin.append_ #[dT, sT] o.type #[v, u]).run P w = .ok v' w' ∧ w'.ownsRow B e z v' m (xs1 ++ news) ∧ w.grownBy w' v.ownBlock ∧ (v'.ownBlock = v.ownBlock ∨ v'.ownBlock = some w.heap.size)) :
    wpOp P ops Q i (fun a' w' => RInv B w0 e z a0 n d sp (listed.setIfInBounds i true) a' w') a w := by
  have hs := H.bel.size
  have hrow := H.rs j1 m1 xs1 i hj1 hl1 hs1 hun
  obtain ⟨v', w', g1, g2, g3, g4⟩ := hrun _ hrow
  have hC := Chg.grown g3
  have hown : ∀ k, (a.eval (.tmp (d j1))).ownBlock = some k → B ≤ k := fun k hk => (hrow.lt k hk).1
  have far : ∀ k m' xs' c', k < n → k ≠ i → k ≠ j1 → listed.getD k false = true → sp k = .r m' xs' c' → listed.getD c' false = false → ∀ b, (a.eval (.tmp (d j1))).ownBlock = some b → (a.eval (.tmp (d k))).ownBlock ≠ some b :=
    fun k m' xs' c' hk hki hkj hlk hsk hck => H.ne j1 k m1 xs1 i m' xs' c' hj1 hk (Ne.symm hkj) hl1 hlk hs1 hsk hun hck
  have hstep := H.adv (w' := w') hi hsz dinj hd v' (H.bel.trans (hC.below hown (by omega))) (fun u h => by rw [hsp] at h; cases h) (fun m' xs' c' h => by rw [hsp] at h; injection h with h1 h2 h3; subst h1 h2; exact g2)
    (fun k m' xs' c' hk hki hci hlk hsk hck h => by
      have hkj : k ≠ j1 := fun e => by
        subst e
        rw [hs1] at hsk
        injection hsk with _ _ h3
        exact hci h3.symm
      exact owns_chg' hC h fun b hb hb2 => far k m' xs' c' hk hki hkj hlk hsk hck b hb2 hb)
    (fun m' xs' c' k m'' xs'' c'' _ hk hki hci hlk hsk hck b hb hb2 => by
      have hkj : k ≠ j1 := fun e => by
        subst e
        rw [hs1] at hsk
        injection hsk with _ _ h3
        exact hci h3.symm
      rcases g4 with g4 | g4
      · exact far k m'' xs'' c'' hk hki hkj hlk hsk hck b (g4.symm.trans hb) hb2
      · have h1 : w.heap.size = b := Option.some.inj (g4.symm.trans hb)
        have := ((H.rs k m'' xs'' c'' hk hlk hsk hck).lt b hb2).2
        omega)
  unfold wpOp
  simp only [ho]
  have hw : Region.wanted o (yielded ops a.tmps) = true := by simp [Region.wanted, hg]
  rw [if_pos hw]
  refine .inl ?_
  unfold Oper.wp
  simp [execOp, hop, resolve, invoke, builtin, hx, g1, Result.andThen]
  show RInv B w0 e z a0 n d sp (listed.setIfInBounds i true) (a.put o.dst v') w'
  rw [hdst]
  exact hstep
end
section
theorem headInv_start (l : List Oper) (n : Nat) : HeadInv .any l.toArray n (Array.replicate l.length false) :=
  ⟨by simp, fun j oj _ hl => (by rw [getD_replicate_false] at hl; cases hl), fun t _ ht => getD_in (by simpa using ht) (getD_replicate_false _ _)⟩
theorem RInv.start {B : Nat} {w0 : World} {e : TypeId} {z : Nat} {a0 : Act} {n : Nat} {d : Nat → Nat} {sp : Nat → Sp} (k : Nat) : RInv B w0 e z a0 n d sp (Array.replicate k false) a0 w0.drew :=
  ⟨rfl, rfl, fun _ _ => rfl, (Below.refl _ _).drew, fun j v _ h => (by rw [getD_replicate_false] at h; cases h), fun j m xs c _ h => (by rw [getD_replicate_false] at h; cases h), fun j k m xs c m' xs' c' _ _ _ h => (by rw [getD_replicate_false] at h; cases h)⟩
end
theorem raw {a : Act} {s : Nat} {v : Value} (h : a.eval (.tmp s) = v) : a.tmps[s]?.getD undef = v := by simpa [Act.eval] using h
theorem cons_of {ts : List Value} {n : Nat} (h : ts.length = n + 1) : ∃ u ts', ts = u :: ts' ∧ ts'.length = n := by
  cases ts with
  | nil => cases h
  | cons u ts => exact ⟨u, ts, rfl, by simpa using h⟩
theorem mem_of_contains {l : List Nat} {i : Nat} (h : l.contains i = true) : i ∈ l := by simpa using h
theorem RInv.advq {B : Nat} {w0 : World} {e : TypeId} {z : Nat} {a0 : Act} {n : Nat} {d : Nat → Nat} {sp : Nat → Sp} {listed : Array Bool} {a : Act} {w : World} {i : Nat} (H : RInv B w0 e z a0 n d sp listed a w) (hi : i < n) (hsz : i < listed.size) (dinj : ∀ j k, j < n → k < n → j ≠ k → d j ≠ d k) (hd : ∀ j, j < n → d j < a0.tmps.size) (v : Value) (hsp : sp i = .q v) :
    RInv B w0 e z a0 n d sp (listed.setIfInBounds i true) (a.put (some (d i)) v) w :=
  H.adv hi hsz dinj hd v H.bel (fun u h => by rw [hsp] at h; injection h) (fun m xs c h => by rw [hsp] at h; cases h) (fun k m xs c _ _ _ _ _ _ h => h) (fun m xs c _ _ _ _ h => by rw [hsp] at h; cases h)

def ArgAt (w : World) (z : Nat) (u : Value) (m : Nat) (news : List Value) : Prop :=
  (u = .slice none 0 0 ∧ m = 0 ∧ news = []) ∨ ∃ a c, u = .slice (some a) m c ∧ news.length = m * z ∧ ∀ j v, news[j]? = some v → w.cell? (a.add j) = some v
theorem ArgAt.of_row {w : World} {B z n : Nat} {e : TypeId} {v : Value} {xs : List Value} (h : w.ownsRow B e z v n xs) : ArgAt w z v n xs := by
  have hl := h.1
  rcases h.2 with ⟨rfl, rfl⟩ | ⟨g, cap, cur, rfl, hb, hg, hc, _, hs, ht⟩
  · exact .inl ⟨rfl, rfl, List.length_eq_zero_iff.1 (by simpa using hl)⟩
  · refine .inr ⟨⟨g, 0, none⟩, cap, rfl, hl, fun j u hj => ?_⟩
    rw [Addr.add_lit, Nat.zero_add, cell_of_row w g _ cur _ _ hg, ← Array.getElem?_toList]
    rw [← ht, List.getElem?_take] at hj
    split at hj
    · exact hj
    · cases hj
theorem ArgAt.below {w w' : World} {z m : Nat} {u : Value} {news : List Value} (h : ArgAt w z u m news) (hb : Below w.heap.size w w') : ArgAt w' z u m news := by
  rcases h with h | ⟨a, c, rfl, h1, h2⟩
  · exact .inl h
  · exact .inr ⟨a, c, rfl, h1, fun j v hj => (hb.cell (block_lt_of_cell (h2 j v hj))).trans (h2 j v hj)⟩
theorem app_arg {w : World} (base : Nat) (t ty e : TypeId) (i : TypeInfo) (zv : Value) (z bytes : Nat) (ht : Tryd.prog.underlying t = some (.slice e)) (hi : Tryd.prog.info? e = some i) (hz : i.zero = some zv)
    (hsize : i.size = z) (hby : i.bytes = bytes) (hzs : zv.cells.size = z) (hsz : 0 < z) (hb16 : bytes ≤ 16)
    (v : Value) (n : Nat) (xs : List Value) (hown : w.ownsRow base e z v n xs) (u : Value) (m : Nat) (news : List Value) (hu : ArgAt w z u m news) (h1 : ∀ u ∈ news, u.oneCell' = true) (hn : n + m ≤ 3000) (hbase : base ≤ w.heap.size) :
    ∃ v' w', (Builtin.append_ #[t, t] ty #[v, u]).run Tryd.prog w = .ok v' w' ∧ w'.ownsRow base e z v' (n + m) (xs ++ news) ∧ w.grownBy w' v.ownBlock ∧ (v'.ownBlock = v.ownBlock ∨ v'.ownBlock = some w.heap.size) := by
  rcases hu with ⟨rfl, rfl, rfl⟩ | ⟨a, c, rfl, h2, h3⟩
  · refine ⟨v, w, run_append_owned_none w base t ty e i z ht hi v n xs hown, by simpa using hown, ⟨rfl, rfl, rfl, Nat.le_refl _, fun _ _ _ => rfl⟩, .inl rfl⟩
  · obtain ⟨v', w', g1, g2, g3, _, g5⟩ := run_append_own_at (P := Tryd.prog) w base t ty e i zv z bytes ht hi hz hsize hby hzs hsz v n xs hown a m c news h2 h3 h1 (by unfold maxLen; omega) (by have : (n + m) * bytes ≤ 3000 * 16 := Nat.mul_le_mul hn hb16; omega) hbase
    exact ⟨v', w', g1, g2, g3, g5⟩
theorem row_or {w : World} {base n z : Nat} {e : TypeId} {v : Value} {xs : List Value} (h : w.ownsRow base e z v n xs) : (v = .slice none 0 0 ∧ n = 0) ∨ ∃ g c, v = .slice (some ⟨g, 0, none⟩) n c ∧ n ≤ c := by
  rcases h.2 with ⟨rfl, rfl⟩ | ⟨g, cap, cur, rfl, hb, hg, hc, _, hs, ht⟩
  · exact .inl ⟨rfl, rfl⟩
  · exact .inr ⟨g, cap, rfl, hc⟩
theorem arg_nil {w : World} {z : Nat} : ArgAt w z (.slice none 0 0) 0 [] := .inl ⟨rfl, rfl, rfl⟩
theorem info_i64 : ∃ i, Tryd.prog.info? 3 = some i ∧ i.zero = some (.int .i64 0) ∧ i.size = 1 ∧ i.bytes = 8 := by
  obtain ⟨i, hi⟩ : ∃ i, Tryd.prog.info? 3 = some i := Option.isSome_iff_exists.1 (by kernel_rfl)
  have h : ((Tryd.prog.info? 3).map fun i => (i.size, i.bytes)) = some (1, 8) := by kernel_rfl
  have hz : (Tryd.prog.info? 3).bind (·.zero) = some (.int .i64 0) := by kernel_rfl
  rw [hi] at h hz
  exact ⟨i, hi, by simpa using hz, by simpa using congrArg Prod.fst (Option.some.inj h), by simpa using congrArg Prod.snd (Option.some.inj h)⟩
theorem info_ptr : ∃ i, Tryd.prog.info? 62 = some i ∧ i.zero = some (.pointer none) ∧ i.size = 1 ∧ i.bytes = 8 := by
  obtain ⟨i, hi⟩ : ∃ i, Tryd.prog.info? 62 = some i := Option.isSome_iff_exists.1 (by kernel_rfl)
  have h : ((Tryd.prog.info? 62).map fun i => (i.size, i.bytes)) = some (1, 8) := by kernel_rfl
  have hz : (Tryd.prog.info? 62).bind (·.zero) = some (.pointer none) := by kernel_rfl
  rw [hi] at h hz
  exact ⟨i, hi, by simpa using hz, by simpa using congrArg Prod.fst (Option.some.inj h), by simpa using congrArg Prod.snd (Option.some.inj h)⟩
theorem app_int {w : World} (base : Nat) (ty : TypeId) (v : Value) (n : Nat) (xs : List Value) (hown : w.ownsRow base 3 1 v n xs) (u : Value) (m : Nat) (news : List Value) (hu : ArgAt w 1 u m news) (h1 : ∀ u ∈ news, u.oneCell' = true) (hn : n + m ≤ 3000) (hbase : base ≤ w.heap.size) :
    ∃ v' w', (Builtin.append_ #[34, 34] ty #[v, u]).run Tryd.prog w = .ok v' w' ∧ w'.ownsRow base 3 1 v' (n + m) (xs ++ news) ∧ w.grownBy w' v.ownBlock ∧ (v'.ownBlock = v.ownBlock ∨ v'.ownBlock = some w.heap.size) := by
  obtain ⟨i, hi, hz, hs, hb⟩ := info_i64
  exact app_arg base _ ty _ i _ 1 8 Tryd.underlying34 hi hz hs hb rfl (by omega) (by omega) v n _ hown u m _ hu h1 hn hbase
theorem app_ptr {w : World} (base : Nat) (ty : TypeId) (v : Value) (n : Nat) (xs : List Value) (hown : w.ownsRow base 62 1 v n xs) (u : Value) (m : Nat) (news : List Value) (hu : ArgAt w 1 u m news) (h1 : ∀ u ∈ news, u.oneCell' = true) (hn : n + m ≤ 3000) (hbase : base ≤ w.heap.size) :
    ∃ v' w', (Builtin.append_ #[75, 75] ty #[v, u]).run Tryd.prog w = .ok v' w' ∧ w'.ownsRow base 62 1 v' (n + m) (xs ++ news) ∧ w.grownBy w' v.ownBlock ∧ (v'.ownBlock = v.ownBlock ∨ v'.ownBlock = some w.heap.size) := by
  obtain ⟨i, hi, hz, hs, hb⟩ := info_ptr
  exact app_arg base _ ty _ i _ 1 8 Tryd.underlying75 hi hz hs hb rfl (by omega) (by omega) v n _ hown u m _ hu h1 hn hbase
/-- A row of one-cell elements. -/
theorem row1 {w : World} {base n : Nat} {e : TypeId} {v : Value} {xs : List Value} (h : w.ownsRow base e 1 v n xs) : ∃ p c, v = .slice p n c ∧ xs.length = n ∧ n ≤ c ∧ (∀ k, v.ownBlock = some k → base ≤ k) ∧ ∀ i (hi : i < xs.length), ∃ a, p = some a ∧ w.cell? (a.add i) = some xs[i] := by
  have hl : xs.length = n := by have := h.1; omega
  rcases h.2 with ⟨rfl, rfl⟩ | ⟨g, cap, cur, rfl, hb, hg, hc, _, hs, ht⟩
  · exact ⟨none, 0, rfl, hl, Nat.le_refl _, fun k hk => (nomatch hk), fun i hi => absurd hi (by omega)⟩
  · refine ⟨some ⟨g, 0, none⟩, cap, rfl, hl, hc, fun k hk => by injection hk with hk; exact hk ▸ hb, fun i hi => ⟨⟨g, 0, none⟩, rfl, ?_⟩⟩
    rw [Addr.add_lit, Nat.zero_add, cell_of_row w g _ cur _ _ hg, ← Array.getElem?_toList]
    have hj : xs[i]? = some xs[i] := List.getElem?_eq_getElem hi
    have hj2 : (cur.toList.take (n * 1))[i]? = some xs[i] := by rw [ht]; exact hj
    rw [List.getElem?_take] at hj2
    split at hj2
    · exact hj2
    · cases hj2
end Go.Proofs.YtacdbgoffepaaaaDoor
