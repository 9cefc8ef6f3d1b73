/-
  Package iters: the state of the iterators and of the document's, and what keeps it (plain).
-/
import Derived.Test.YtacdbgoffepaaaaDoorCurActs
import Derived.Maps.OwnIn
import Derived.Maps.RangeWalk
import Derived.Lib.SlKeysI
namespace Go.Proofs.YtacdbgoffepaaaaDoor
open Go.RowKit Go.Lib

/-- An open iterator: its number, its cursor's block, where it stands, whether it is done. -/
structure Cu where
  id : Int
  b : Nat
  h : Int
  k : Int
  d : Bool
def Cu.tag (e : Cu) : Int × Int × Int × Bool := (e.id, e.h, e.k, e.d)

/-! ### the map -/
/-- How a pointer to a cursor reads. -/
def curElem (v : Value) : Option (DataW Nat × List MemPlace) := match v with
  | .pointer none => some (.nil, [])
  | .pointer (some ⟨b, 0, none⟩) => some (.lit (.int .i64 b), [])
  | _ => none
theorem curElem_mk (b : Nat) : curElem (.pointer (some ⟨b, 0, none⟩)) = some (.lit (.int .i64 b), []) := rfl
theorem curElem_inv {v : Value} {z : DataW Nat × List MemPlace} (h : curElem v = some z) : (v = .pointer none ∧ z = (.nil, [])) ∨ ∃ b : Nat, v = .pointer (some ⟨b, 0, none⟩) ∧ z = (.lit (.int .i64 b), []) := by
  unfold curElem at h
  split at h
  · exact .inl ⟨rfl, (Option.some.inj h).symm⟩
  · exact .inr ⟨_, rfl, (Option.some.inj h).symm⟩
  · cases h
def entD (e : Cu) : Lit × DataW Nat := (.int .i64 e.id, .lit (.int .i64 e.b))
def MapRel (D : DataW Nat) (E : List Cu) : Prop := ∃ es, D = .map es ∧ es.Perm (E.map entD)
theorem same_int (a b : Int) : (Lit.int .i64 a).sameKey (.int .i64 b) = decide (a = b) := by simp [Lit.sameKey]
theorem MapRel.nil : MapRel (.map []) [] := ⟨[], rfl, List.Perm.refl _⟩
section
variable {D : DataW Nat} {E F : List Cu}
theorem MapRel.upd (H : MapRel D E) (h : E.map entD = F.map entD) : MapRel D F := by
  obtain ⟨es, e, p⟩ := H
  exact ⟨es, e, h ▸ p⟩
theorem MapRel.has (H : MapRel D E) (id : Int) : Maps.has D (.int .i64 id) = E.any fun e => decide (e.id = id) := by
  obtain ⟨es, rfl, p⟩ := H
  rw [Maps.has_eq, p.any_eq, List.any_map]
  congr 1
  funext e
  exact same_int _ _
theorem MapRel.size (H : MapRel D E) : Maps.size D = E.length := by
  obtain ⟨es, rfl, p⟩ := H
  rw [Maps.size_eq, p.length_eq, List.length_map]
theorem MapRel.keys (H : MapRel D E) : (intKeys D).Perm (E.map Cu.id) := by
  obtain ⟨es, rfl, p⟩ := H
  show (es.map _).Perm _
  refine (p.map _).trans ?_
  rw [List.map_map]
  exact List.Perm.refl _
theorem MapRel.at_ (H : MapRel D E) (hn : E.Pairwise fun a b => a.id < b.id ∧ a.b ≠ b.b) {e : Cu} (he : e ∈ E) (z : DataW Nat) : D.atKey (.int .i64 e.id) z = .lit (.int .i64 e.b) := by
  obtain ⟨es, rfl, p⟩ := H
  have hap : (E.map entD).Pairwise fun p q => p.1 ≠ q.1 := by
    rw [List.pairwise_map]
    refine hn.imp fun h c => ?_
    have : (Lit.int IntKind.i64 _) = Lit.int IntKind.i64 _ := c
    injection this with _ c
    have := h.1
    omega
  exact WideAt.atKey_mem z trivial ((p.pairwise_iff fun {_ _} h => Ne.symm h).2 hap) (p.mem_iff.2 (List.mem_map.2 ⟨e, he, rfl⟩))
theorem MapRel.at_no (H : MapRel D E) {id : Int} (h : ∀ e ∈ E, e.id ≠ id) (z : DataW Nat) : D.atKey (.int .i64 id) z = z := by
  refine Maps.atKey_of_not_has ?_ z
  rw [H.has]
  exact List.any_eq_false.2 fun e he => by simpa using h e he
theorem MapRel.put (H : MapRel D E) {id : Int} {b : Nat} (h : ∀ e ∈ E, e.id ≠ id) : MapRel (D.put (.int .i64 id) (.lit (.int .i64 b))) (E ++ [⟨id, b, 0, 0, false⟩]) := by
  obtain ⟨es, rfl, p⟩ := H
  refine ⟨_, rfl, ?_⟩
  have hf : (es.filter fun p => !p.1.sameKey (.int .i64 id)) = es := by
    refine List.filter_eq_self.2 fun x hx => ?_
    obtain ⟨e, he, rfl⟩ := List.mem_map.1 (p.mem_iff.1 hx)
    show (!(Lit.int .i64 e.id).sameKey (.int .i64 id)) = true
    rw [same_int]
    simpa using h e he
  rw [hf]
  refine (WideShapes.insert_perm _ _).trans ?_
  rw [List.map_append]
  exact (p.cons _).trans (List.perm_append_singleton _ _).symm
theorem MapRel.del (H : MapRel D E) (id : Int) : MapRel (D.del (.int .i64 id)) (E.filter fun e => decide (e.id ≠ id)) := by
  obtain ⟨es, rfl, p⟩ := H
  refine ⟨_, rfl, ?_⟩
  refine (p.filter _).trans ?_
  rw [List.filter_map]
  have : ((fun p : Lit × DataW Nat => !p.1.sameKey (.int .i64 id)) ∘ entD) = fun e => decide (e.id ≠ id) := by
    funext e
    show (!(Lit.int .i64 e.id).sameKey (.int .i64 id)) = _
    rw [same_int]
    simp
  rw [this]
end

/-! ### what may change -/
/-- Blocks of the program's iterators. -/
def kindP (o : Obj) : Bool := match o with
  | .cells _ t _ => t == 106 || t == 98
  | .map _ _ => true
  | .mapIter _ _ _ _ => true
  | _ => false
/-- A walk over a map. -/
def kindI (o : Obj) : Bool := match o with
  | .mapIter _ _ _ _ => true
  | _ => false
/-- Blocks of the document's. -/
def kindR (o : Obj) : Bool := match o with
  | .cells _ t _ => t == 77 || t == 64 || t == 3 || t == 62
  | _ => false
/-- All blocks below B and all of another kind are as they were. -/
structure ChK (K : Obj → Bool) (B : Nat) (w w' : World) : Prop where
  os : w'.os = w.os
  tape : w'.tape = w.tape
  output : w'.output = w.output
  size : w.heap.size ≤ w'.heap.size
  block : ∀ k, k < w.heap.size → (k < B ∨ ∀ o, w.heap[k]? = some o → K o = false) → w'.heap[k]? = w.heap[k]?
section
variable {K : Obj → Bool} {B : Nat} {w w' w1 : World}
theorem ChK.of (h : Below w.heap.size w w') : ChK K B w w' := ⟨h.os, h.tape, h.output, h.size, fun k hk _ => h.block k hk⟩
theorem ChK.refl : ChK K B w w := ChK.of (Below.refl _ _)
theorem ChK.trans (h : ChK K B w w1) (k : ChK K B w1 w') : ChK K B w w' :=
  ⟨k.os.trans h.os, k.tape.trans h.tape, k.output.trans h.output, Nat.le_trans h.size k.size, fun i hi hx => by
    have e := h.block i hi hx
    rw [k.block i (Nat.lt_of_lt_of_le hi h.size) (hx.imp id fun c o ho => c o (by rw [← e]; exact ho)), e]⟩
theorem ChK.below (h : ChK K B w w') (hB : B ≤ w.heap.size) : Below B w w' := ⟨h.os, h.tape, h.output, h.size, fun k hk => h.block k (by omega) (.inl hk)⟩
theorem ChK.but {b : Nat} (h : But b w w') (hb : B ≤ b) {o : Obj} (ho : w.heap[b]? = some o) (hk : K o = true) : ChK K B w w' :=
  ⟨h.os, h.tape, h.output, h.size, fun k hk' hx => h.block k hk' fun e => by
    subst e
    rcases hx with c | c
    · omega
    · rw [c o ho] at hk; cases hk⟩
theorem ChK.same (h : ChK K B w w') {k : Nat} {o : Obj} (ho : w.heap[k]? = some o) (hk : K o = false) : w'.heap[k]? = some o := by
  have hlt : k < w.heap.size := (Array.getElem?_eq_some_iff.1 ho).1
  rw [h.block k hlt (.inr fun o' h' => by rw [ho] at h'; cases h'; exact hk)]
  exact ho
theorem ChK.blk (h : ChK K B w w') {g : Nat} {t : TypeId} {cs : Array Value} (hb : Blk w g t cs) (hk : K (.cells cs t (0, 0)) = false) : Blk w' g t cs := h.same hb hk
theorem ChK.owns (h : ChK K B w w') {z n b0 : Nat} {e : TypeId} {v : Value} {xs : List Value} (hw : w.ownsRow b0 e z v n xs) (hk : ∀ cs, K (.cells cs e (0, 0)) = false) : w'.ownsRow b0 e z v n xs := by
  refine ⟨hw.1, ?_⟩
  rcases hw.2 with c | ⟨g, cap, cur, rfl, hb, hg, rest⟩
  · exact .inl c
  · exact .inr ⟨g, cap, cur, rfl, hb, h.same hg (hk _), rest⟩
end
theorem cu_one {E : List Cu} (hs : E.Pairwise fun a b => a.id < b.id ∧ a.b ≠ b.b) {a b : Cu} (ha : a ∈ E) (hb : b ∈ E) (h : a.id = b.id) : a = b ∧ a.b = b.b := by
  suffices a = b from ⟨this, by rw [this]⟩
  induction E with
  | nil => cases ha
  | cons x E ih =>
    have hx := (List.pairwise_cons.1 hs).1
    rcases List.mem_cons.1 ha with ea | ha' <;> rcases List.mem_cons.1 hb with eb | hb'
    · exact ea.trans eb.symm
    · have := (hx b hb').1; rw [ea] at h; omega
    · have := (hx a ha').1; rw [eb] at h; omega
    · exact ih (List.pairwise_cons.1 hs).2 ha' hb'
theorem cu_one' {E : List Cu} (hs : E.Pairwise fun a b => a.id < b.id ∧ a.b ≠ b.b) {a b : Cu} (ha : a ∈ E) (hb : b ∈ E) (h : a.b = b.b) : a.id = b.id := by
  induction E with
  | nil => cases ha
  | cons x E ih =>
    have hx := (List.pairwise_cons.1 hs).1
    rcases List.mem_cons.1 ha with ea | ha' <;> rcases List.mem_cons.1 hb with eb | hb'
    · rw [ea, eb]
    · exact absurd (ea ▸ h) (hx b hb').2
    · exact absurd (eb ▸ h.symm) (hx a ha').2
    · exact ih (List.pairwise_cons.1 hs).2 ha' hb'
/-- The iterators' state. -/
structure PI (B : Nat) (w : World) (tb mb : Nat) (most given : Int) (E : List Cu) (m : Nat) : Prop where
  map : ∃ D, w.ownsMap Tryd.prog 3 curElem mb m D ∧ MapRel D E
  blk : Blk w tb 106 #[.int .i64 most, .int .i64 given, .map (some mb)]
  cur : ∀ e ∈ E, CurAt w e.b e.h e.k e.d
  sort : E.Pairwise fun a b => a.id < b.id ∧ a.b ≠ b.b
  ids : ∀ e ∈ E, 1 ≤ e.id ∧ e.id ≤ given ∧ B ≤ e.b
  lo : B ≤ tb ∧ B ≤ mb
  gv : 0 ≤ given ∧ given ≤ m ∧ m ≤ 100
/-- The document's. -/
structure RI (B : Nat) (w : World) (rb : Nat) (most given : Int) (E : List Cu) : Prop where
  ex : ∃ vi vc, Blk w rb 77 #[.int .i64 most, .int .i64 given, vi, vc] ∧ w.ownsRow B 3 1 vi E.length (E.map fun e => .int .i64 e.id) ∧ w.ownsRow B 62 1 vc E.length (E.map fun e => .pointer (some ⟨e.b, 0, none⟩))
  cur : ∀ e ∈ E, RefAt w e.b e.h e.k e.d
  dis : E.Pairwise fun a b => a.b ≠ b.b
  lo : B ≤ rb ∧ ∀ e ∈ E, B ≤ e.b
  small : E.length ≤ 1000
section
variable {B : Nat} {w w' : World} {tb mb rb : Nat} {most given : Int} {E : List Cu} {m : Nat}
theorem own_same {R : Value → Option (DataW Nat × List MemPlace)} {t : TypeId} {n : Nat} {D : DataW Nat} (h : w.ownsMap Tryd.prog t R mb n D) (hs : ∀ o, w.heap[mb]? = some o → w'.heap[mb]? = some o) : w'.ownsMap Tryd.prog t R mb n D := by
  obtain ⟨es, clock, hb, rest⟩ := h
  exact ⟨es, clock, hs _ hb, rest⟩
theorem PI.chk (H : PI B w tb mb most given E m) (h : ChK kindR B w w') : PI B w' tb mb most given E m := by
  obtain ⟨D, h1, h2⟩ := H.map
  refine ⟨⟨D, ?_, h2⟩, h.blk H.blk rfl, fun e he => h.blk (H.cur e he) rfl, H.sort, H.ids, H.lo, H.gv⟩
  obtain ⟨es, clock, hb, rest⟩ := h1
  exact ⟨es, clock, h.same hb rfl, rest⟩
theorem PI.chkI (H : PI B w tb mb most given E m) (h : ChK kindI B w w') : PI B w' tb mb most given E m := by
  obtain ⟨D, h1, h2⟩ := H.map
  refine ⟨⟨D, ?_, h2⟩, h.blk H.blk rfl, fun e he => h.blk (H.cur e he) rfl, H.sort, H.ids, H.lo, H.gv⟩
  obtain ⟨es, clock, hb, rest⟩ := h1
  exact ⟨es, clock, h.same hb rfl, rest⟩
theorem ChK.ofI (h : ChK kindI B w w') : ChK kindP B w w' := ⟨h.os, h.tape, h.output, h.size, fun k hk hx => h.block k hk (hx.imp id fun c o ho => by
  have := c o ho
  cases o <;> first | rfl | cases this)⟩
/-- One cursor has gone on. -/
theorem PI.setCu (H : PI B w tb mb most given E m) {e : Cu} (he : e ∈ E) {h' k' : Int} {d' : Bool} (hc : CurAt w' e.b h' k' d') (hb : But e.b w w') : PI B w' tb mb most given (E.map fun f => if f.id = e.id then ⟨f.id, f.b, h', k', d'⟩ else f) m ∧ ChK kindP B w w' := by
  have hce := H.cur e he
  have ht : w.heap[e.b]? = some _ := hce
  have keep : ∀ {g : Nat} {o : Obj}, w.heap[g]? = some o → g ≠ e.b → w'.heap[g]? = some o := fun {g o} hg hne => (hb.block g (Array.getElem?_eq_some_iff.1 hg).1 hne).trans hg
  obtain ⟨D, h1, h2⟩ := H.map
  have hmap : (E.map fun f => if f.id = e.id then (⟨f.id, f.b, h', k', d'⟩ : Cu) else f).map entD = E.map entD := by
    rw [List.map_map]
    congr 1
    funext f
    show entD (if _ then _ else f) = entD f
    split <;> rfl
  refine ⟨⟨⟨D, own_same h1 fun o ho => keep ho fun c => ?_, h2.upd hmap.symm⟩, ?_, ?_, ?_, ?_, H.lo, H.gv⟩, ChK.but hb (H.ids e he).2.2 ht rfl⟩
  · obtain ⟨es, clock, hb', _⟩ := h1
    rw [c, ht] at hb'
    cases hb'
  · refine keep H.blk fun c => ?_
    have hk : w.heap[tb]? = some _ := H.blk
    rw [c, ht] at hk
    cases hk
  · intro f hf
    obtain ⟨g, hg, rfl⟩ := List.mem_map.1 hf
    by_cases hid : g.id = e.id
    · rw [if_pos hid]
      have : g.b = e.b := (cu_one H.sort hg he hid).2
      show CurAt w' g.b h' k' d'
      rw [this]
      exact hc
    · rw [if_neg hid]
      exact keep (H.cur g hg) fun c => hid (cu_one' H.sort hg he c)
  · rw [List.pairwise_map]
    refine H.sort.imp fun {a b} h => ?_
    have e1 : ∀ f : Cu, (if f.id = e.id then (⟨f.id, f.b, h', k', d'⟩ : Cu) else f).id = f.id ∧ (if f.id = e.id then (⟨f.id, f.b, h', k', d'⟩ : Cu) else f).b = f.b := fun f => by split <;> exact ⟨rfl, rfl⟩
    rw [(e1 a).1, (e1 a).2, (e1 b).1, (e1 b).2]
    exact h
  · intro f hf
    obtain ⟨g, hg, rfl⟩ := List.mem_map.1 hf
    have e1 : (if g.id = e.id then (⟨g.id, g.b, h', k', d'⟩ : Cu) else g).id = g.id ∧ (if g.id = e.id then (⟨g.id, g.b, h', k', d'⟩ : Cu) else g).b = g.b := by split <;> exact ⟨rfl, rfl⟩
    rw [e1.1, e1.2]
    exact H.ids g hg
theorem PI.below (H : PI B w tb mb most given E m) (h : Below w.heap.size w w') : PI B w' tb mb most given E m := H.chk (ChK.of h)
theorem RI.chk (H : RI B w rb most given E) (h : ChK kindP B w w') : RI B w' rb most given E := by
  obtain ⟨vi, vc, h1, h2, h3⟩ := H.ex
  refine ⟨⟨vi, vc, h.blk h1 rfl, h.owns h2 (fun _ => rfl), h.owns h3 (fun _ => rfl)⟩, fun e he => ?_, H.dis, H.lo, H.small⟩
  obtain ⟨s, HH, K, hB, rest⟩ := H.cur e he
  exact ⟨s, HH, K, h.blk hB rfl, rest⟩
theorem RI.below (H : RI B w rb most given E) (h : Below w.heap.size w w') : RI B w' rb most given E := H.chk (ChK.of h)
end
end Go.Proofs.YtacdbgoffepaaaaDoor
