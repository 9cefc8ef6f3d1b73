/-
  A slice of amblerlaw24's acts, as a row's reading gives it, in the form that the walk meets; what the walk knows of a world.
-/
import Derived.Test.YtacdbgoffepaaaaDoorItS
import Derived.Test.YtacdbgoffepaaaaDoorActs
namespace Go.Proofs.YtacdbgoffepaaaaDoor
open Go.ChangeShapes Go.WideShapes Go.Deep Go.RowKit Go.Lib

/-- An act: its kind, the number, its entry's key, value and hash. -/
structure Act5 where
  kind : Int
  n : Int
  key : Int
  val : Int
  hash : Int
def Act5.ok (x : Act5) : Prop := I64 x.n ∧ (0 ≤ x.key ∧ x.key < 18446744073709551616) ∧ 0 ≤ x.hash ∧ x.hash < 18446744073709551616
def Acts5 (w : World) (p : Option Addr) (n : Nat) (F : Nat → Act5) : Prop :=
  ∀ i, i < n → ∃ a, p = some a ∧ w.cell? (a.add (i * 5)) = some (.int .i64 (F i).kind) ∧ w.cell? ⟨(a.add (i * 5)).block, (a.add (i * 5)).off + 1, none⟩ = some (.int .i64 (F i).n) ∧ w.cell? ⟨(a.add (i * 5)).block, (a.add (i * 5)).off + 2, none⟩ = some (.int .u64 (F i).key) ∧ w.cell? ⟨(a.add (i * 5)).block, (a.add (i * 5)).off + 3, none⟩ = some (.int .u64 (F i).val) ∧ w.cell? ⟨(a.add (i * 5)).block, (a.add (i * 5)).off + 4, none⟩ = some (.int .u64 (F i).hash)
theorem Acts5.below {w w' : World} {p : Option Addr} {n : Nat} {F : Nat → Act5} (H : Acts5 w p n F) (hb : Below w.heap.size w w') : Acts5 w' p n F := by
  intro i hi
  obtain ⟨a, hp, h0, h1, h2, h3, h4⟩ := H i hi
  have hl := block_lt_of_cell h0
  exact ⟨a, hp, (hb.cell hl).trans h0, (hb.cell (p := ⟨(a.add (i * 5)).block, _, none⟩) hl).trans h1, (hb.cell (p := ⟨(a.add (i * 5)).block, _, none⟩) hl).trans h2, (hb.cell (p := ⟨(a.add (i * 5)).block, _, none⟩) hl).trans h3, (hb.cell (p := ⟨(a.add (i * 5)).block, _, none⟩) hl).trans h4⟩
theorem bounds_i64 {n : Int} (h : (Lit.int .i64 n).wf = true) : I64 n := by
  have e1 : IntKind.i64.min = -9223372036854775808 := by decide
  have e2 : IntKind.i64.max = 9223372036854775807 := by decide
  simp [Lit.wf, e1, e2] at h
  exact h
section
variable {H : Type} {enc : TypeId × Value → H} {W : World} {sp : Nat → Bool} {held : Bool} {fuel : Nat}
set_option maxRecDepth 100000 in
theorem act5_of {cs : List Value} {x : DataW H × List MemPlace} (h : DataW.trod enc Tryd.prog W 0 sp held fuel 79 cs = some x) :
    ∃ kd nu k v h', cs = [.int .i64 kd, .int .i64 nu, .int .u64 k, .int .u64 v, .int .u64 h'] ∧ I64 nu ∧ (0 ≤ k ∧ k < 18446744073709551616) ∧ 0 ≤ h' ∧ h' < 18446744073709551616 := by
  obtain ⟨ys, n, _, _, hl, hlen, hf⟩ := DataW.trod_struct Tryd.underlying79 h
  have hl5 : cs.length = 5 := hl.trans (by kernel_rfl)
  match cs, hl5 with
  | [c0, c1, c2, c3, c4], _ =>
    have f0 := hf 0 _ rfl
    have f1 := hf 1 _ rfl
    have f2 := hf 2 _ rfl
    have hc : Tryd.prog.cellsOf 3 = 1 := by kernel_rfl
    obtain ⟨y0, e0⟩ : ∃ y, ys[0]? = some y := ⟨_, List.getElem?_eq_getElem (by rw [hlen]; decide)⟩
    obtain ⟨y1, e1⟩ : ∃ y, ys[1]? = some y := ⟨_, List.getElem?_eq_getElem (by rw [hlen]; decide)⟩
    obtain ⟨y2, e2⟩ : ∃ y, ys[2]? = some y := ⟨_, List.getElem?_eq_getElem (by rw [hlen]; decide)⟩
    rw [e0] at f0
    rw [e1] at f1
    rw [e2] at f2
    obtain ⟨kd, g0, _, _⟩ := DataW.trod_int Tryd.underlying3 f0
    obtain ⟨nu, g1, _, w1⟩ := DataW.trod_int Tryd.underlying3 f1
    obtain ⟨k, v, h', g2, b0, _, b2⟩ := entry_of f2
    change List.take (Tryd.prog.cellsOf 3) _ = _ at g0 g1
    have hc3 : Tryd.prog.cellsOf 42 = 3 := by kernel_rfl
    change List.take (Tryd.prog.cellsOf 42) _ = _ at g2
    rw [hc] at g0 g1
    rw [hc3] at g2
    simp at g0 g1 g2
    obtain ⟨rfl, rfl, rfl⟩ := g2
    subst g0 g1
    exact ⟨kd, nu, k, v, h', rfl, bounds_i64 w1, b0, b2⟩
theorem acts5_of {v : Value} {x : DataW H × List MemPlace} (hv : ∃ a len cap, v = .slice a len cap) (h : DataW.trod enc Tryd.prog W 0 sp held fuel 70 v.cells.toList = some x) :
    ∃ (p : Option Addr) (n cap : Nat) (F : Nat → Act5), v = .slice p n cap ∧ n ≤ maxLen ∧ Acts5 W p n F ∧ ∀ i, i < n → (F i).ok := by
  obtain ⟨a0, l0, c0, rfl⟩ := hv
  have hC : Tryd.prog.cellsOf 79 = 5 := by kernel_rfl
  rcases open_slice Tryd.underlying70 h with ⟨h0, _⟩ | ⟨a, len, cap, m, n, D, Pl, hcs, hb, hl, hm, hmm, hx, hi⟩
  · have h0' : (Value.slice a0 l0 c0) = .slice none 0 0 := by simpa [Value.cells] using h0
    rw [h0']
    exact ⟨none, 0, 0, fun _ => ⟨0, 0, 0, 0, 0⟩, rfl, by decide, fun i hi => absurd hi (by omega), fun i hi => absurd hi (by omega)⟩
  · have h0' : (Value.slice a0 l0 c0) = .slice (some a) len cap := by simpa [Value.cells] using hcs
    rw [h0']
    have hlm : len ≤ m := by rw [hmm]; split <;> omega
    have key : ∀ i, i < len → ∃ kd nu k v h' : Int, W.cell? (a.add (i * 5)) = some (.int .i64 kd) ∧ W.cell? ⟨(a.add (i * 5)).block, (a.add (i * 5)).off + 1, none⟩ = some (.int .i64 nu) ∧ W.cell? ⟨(a.add (i * 5)).block, (a.add (i * 5)).off + 2, none⟩ = some (.int .u64 k) ∧ W.cell? ⟨(a.add (i * 5)).block, (a.add (i * 5)).off + 3, none⟩ = some (.int .u64 v) ∧ W.cell? ⟨(a.add (i * 5)).block, (a.add (i * 5)).off + 4, none⟩ = some (.int .u64 h') ∧ I64 nu ∧ (0 ≤ k ∧ k < 18446744073709551616) ∧ 0 ≤ h' ∧ h' < 18446744073709551616 := by
      intro i hil
      obtain ⟨cs', h1, h2⟩ := hi i (by omega)
      rw [hC] at h1
      obtain ⟨_, hcl, hat⟩ := World.cells?_some h1
      obtain ⟨kd, nu, k, v, h', rfl, bn, b0, b2⟩ := act5_of h2
      have q0 := hat 0 (by decide)
      have q1 := hat 1 (by decide)
      have q2 := hat 2 (by decide)
      have q3 := hat 3 (by decide)
      have q4 := hat 4 (by decide)
      rw [Addr.add_zero'] at q0
      rw [Addr.add_succ'] at q1 q2 q3 q4
      exact ⟨kd, nu, k, v, h', q0, q1, q2, q3, q4, bn, b0, b2⟩
    refine ⟨some a, len, cap, fun i => ⟨rdI W (a.add (i * 5)), rdI W ⟨(a.add (i * 5)).block, (a.add (i * 5)).off + 1, none⟩, rdI W ⟨(a.add (i * 5)).block, (a.add (i * 5)).off + 2, none⟩, rdI W ⟨(a.add (i * 5)).block, (a.add (i * 5)).off + 3, none⟩, rdI W ⟨(a.add (i * 5)).block, (a.add (i * 5)).off + 4, none⟩⟩, rfl, by omega, fun i hi => ?_, fun i hi => ?_⟩
    · obtain ⟨kd, nu, k, v, h', q0, q1, q2, q3, q4, _⟩ := key i hi
      refine ⟨a, rfl, ?_, ?_, ?_, ?_, ?_⟩
      · show W.cell? (a.add (i * 5)) = some (.int .i64 (rdI W (a.add (i * 5))))
        rw [rdI_of q0]; exact q0
      · show W.cell? ⟨(a.add (i * 5)).block, (a.add (i * 5)).off + 1, none⟩ = some (.int .i64 (rdI W ⟨(a.add (i * 5)).block, (a.add (i * 5)).off + 1, none⟩))
        rw [rdI_of q1]; exact q1
      · show W.cell? ⟨(a.add (i * 5)).block, (a.add (i * 5)).off + 2, none⟩ = some (.int .u64 (rdI W ⟨(a.add (i * 5)).block, (a.add (i * 5)).off + 2, none⟩))
        rw [rdI_of q2]; exact q2
      · show W.cell? ⟨(a.add (i * 5)).block, (a.add (i * 5)).off + 3, none⟩ = some (.int .u64 (rdI W ⟨(a.add (i * 5)).block, (a.add (i * 5)).off + 3, none⟩))
        rw [rdI_of q3]; exact q3
      · show W.cell? ⟨(a.add (i * 5)).block, (a.add (i * 5)).off + 4, none⟩ = some (.int .u64 (rdI W ⟨(a.add (i * 5)).block, (a.add (i * 5)).off + 4, none⟩))
        rw [rdI_of q4]; exact q4
    · obtain ⟨kd, nu, k, v, h', q0, q1, q2, q3, q4, bn, b0, b2⟩ := key i hi
      unfold Act5.ok
      simp only [rdI_of q1, rdI_of q2, rdI_of q4]
      exact ⟨bn, b0, b2⟩
end

/-! ### both sides -/
theorem PI.lower {B B' : Nat} {w : World} {tb mb : Nat} {most given : Int} {E : List Cu} {m : Nat} (H : PI B w tb mb most given E m) (h : B' ≤ B) : PI B' w tb mb most given E m :=
  ⟨H.map, H.blk, H.cur, H.sort, fun e he => ⟨(H.ids e he).1, (H.ids e he).2.1, Nat.le_trans h (H.ids e he).2.2⟩, ⟨Nat.le_trans h H.lo.1, Nat.le_trans h H.lo.2⟩, H.gv⟩
/-- What the walk knows of a world: both sides' iterators, and the act in its block. -/
structure Duo (w0 w : World) (tb mb rb ab : Nat) (most given : Int) (EP : List Cu) (m : Nat) (gr : Int) (ER : List Cu) (x : Act5) : Prop where
  pi : PI w0.heap.size w tb mb most given EP m
  ri : RI w0.heap.size w rb most gr ER
  old : Below w0.heap.size w0 w
  act : Blk w ab 79 #[.int .i64 x.kind, .int .i64 x.n, .int .u64 x.key, .int .u64 x.val, .int .u64 x.hash]
section
variable {w0 w w' : World} {tb mb rb ab : Nat} {most given given' gr gr' : Int} {EP EP' ER ER' : List Cu} {m m' : Nat} {x : Act5}
theorem Duo.below (H : Duo w0 w tb mb rb ab most given EP m gr ER x) (hb : Below w.heap.size w w') : Duo w0 w' tb mb rb ab most given EP m gr ER x :=
  ⟨H.pi.below hb, H.ri.below hb, H.old.trans (hb.mono H.old.size), H.act.below hb⟩
theorem Duo.left (H : Duo w0 w tb mb rb ab most given EP m gr ER x) (h : PI w0.heap.size w' tb mb most given' EP' m') (c : ChK kindP w0.heap.size w w') : Duo w0 w' tb mb rb ab most given' EP' m' gr ER x :=
  ⟨h, H.ri.chk c, H.old.trans (c.below H.old.size), c.blk H.act rfl⟩
theorem Duo.right (H : Duo w0 w tb mb rb ab most given EP m gr ER x) (h : RI w0.heap.size w' rb most gr' ER') (c : ChK kindR w0.heap.size w w') : Duo w0 w' tb mb rb ab most given EP m gr' ER' x :=
  ⟨H.pi.chk c, h, H.old.trans (c.below H.old.size), c.blk H.act rfl⟩
theorem Duo.cells (H : Duo w0 w tb mb rb ab most given EP m gr ER x) : w.cell? ⟨ab, 0, none⟩ = some (.int .i64 x.kind) ∧ w.cell? ⟨ab, 1, none⟩ = some (.int .i64 x.n) ∧ w.cell? ⟨ab, 2, none⟩ = some (.int .u64 x.key) ∧ w.cell? ⟨ab, 3, none⟩ = some (.int .u64 x.val) ∧ w.cell? ⟨ab, 4, none⟩ = some (.int .u64 x.hash) :=
  ⟨H.act.cell 0, H.act.cell 1, H.act.cell 2, H.act.cell 3, H.act.cell 4⟩
end

/-! ### the same standing -/
/-- Both sides' iterators have the same numbers and stand alike. -/
def Alike (EP ER : List Cu) : Prop := EP.map Cu.tag = ER.map Cu.tag ∧ ∀ e ∈ EP, (0 ≤ e.h ∧ e.h < 18446744073709551616) ∧ 0 ≤ e.k ∧ e.k < 18446744073709551616
section
variable {EP ER : List Cu}
theorem Alike.len (H : Alike EP ER) : EP.length = ER.length := by
  have := congrArg List.length H.1
  simpa using this
theorem Alike.nth (H : Alike EP ER) (i : Nat) (h : i < EP.length) : (ER[i]'(H.len ▸ h)).tag = EP[i].tag := by
  have h2 : i < ER.length := H.len ▸ h
  have e : (EP.map Cu.tag)[i]? = (ER.map Cu.tag)[i]? := by rw [H.1]
  rw [List.getElem?_map, List.getElem?_map, List.getElem?_eq_getElem h, List.getElem?_eq_getElem h2] at e
  exact (Option.some.inj e).symm
theorem Alike.ids (H : Alike EP ER) : EP.map Cu.id = ER.map Cu.id := by
  have := congrArg (List.map Prod.fst) H.1
  simpa [Cu.tag, Function.comp_def] using this
theorem Alike.other (H : Alike EP ER) {e : Cu} (he : e ∈ EP) : ∃ f ∈ ER, f.tag = e.tag := by
  have : e.tag ∈ ER.map Cu.tag := H.1 ▸ List.mem_map.2 ⟨e, he, rfl⟩
  obtain ⟨f, hf, h⟩ := List.mem_map.1 this
  exact ⟨f, hf, h⟩
theorem Alike.none (H : Alike EP ER) {id : Int} (hn : ∀ e ∈ EP, e.id ≠ id) : ∀ f ∈ ER, f.id ≠ id := fun f hf h => by
  have : f.tag ∈ EP.map Cu.tag := H.1 ▸ List.mem_map.2 ⟨f, hf, rfl⟩
  obtain ⟨e, he, h2⟩ := List.mem_map.1 this
  exact hn e he ((congrArg Prod.fst h2).trans h)
theorem Alike.dif (H : Alike EP ER) (hs : EP.Pairwise fun a b => a.id < b.id ∧ a.b ≠ b.b) : ER.Pairwise fun a b => a.id ≠ b.id := by
  have h1 : (EP.map Cu.id).Pairwise fun a b => a ≠ b := by
    rw [List.pairwise_map]
    exact hs.imp fun h => by have := h.1; omega
  rw [H.ids, List.pairwise_map] at h1
  exact h1
theorem Alike.open_ (H : Alike EP ER) (id : Int) (b b' : Nat) : Alike (EP ++ [⟨id, b, 0, 0, false⟩]) (ER ++ [⟨id, b', 0, 0, false⟩]) := by
  refine ⟨by rw [List.map_append, List.map_append, H.1]; rfl, fun e he => ?_⟩
  rcases List.mem_append.1 he with he | he
  · exact H.2 e he
  · rw [List.mem_singleton.1 he]; exact ⟨⟨by show (0 : Int) ≤ 0; decide, by show (0 : Int) < _; decide⟩, by show (0 : Int) ≤ 0; decide, by show (0 : Int) < _; decide⟩
theorem Alike.close (H : Alike EP ER) (id : Int) : Alike (EP.filter fun e => decide (e.id ≠ id)) (ER.filter fun e => decide (e.id ≠ id)) := by
  refine ⟨?_, fun e he => H.2 e (List.mem_filter.1 he).1⟩
  have e1 : ∀ E : List Cu, (E.filter fun e => decide (e.id ≠ id)).map Cu.tag = (E.map Cu.tag).filter fun t => decide (t.1 ≠ id) := fun E => by
    rw [List.filter_map]
    rfl
  rw [e1, e1, H.1]
theorem Alike.set_ (H : Alike EP ER) (id : Int) {h k : Int} (d : Bool) (hh : 0 ≤ h ∧ h < 18446744073709551616) (hk : 0 ≤ k ∧ k < 18446744073709551616) :
    Alike (EP.map fun f => if f.id = id then ⟨f.id, f.b, h, k, d⟩ else f) (ER.map fun f => if f.id = id then ⟨f.id, f.b, h, k, d⟩ else f) := by
  refine ⟨?_, fun e he => ?_⟩
  · have e1 : ∀ E : List Cu, (E.map fun f => if f.id = id then (⟨f.id, f.b, h, k, d⟩ : Cu) else f).map Cu.tag = (E.map Cu.tag).map fun t => if t.1 = id then (t.1, h, k, d) else t := fun E => by
      rw [List.map_map, List.map_map]
      congr 1
      funext f
      show (if f.id = id then (⟨f.id, f.b, h, k, d⟩ : Cu) else f).tag = if f.id = id then _ else _
      split <;> rfl
    rw [e1, e1, H.1]
  · obtain ⟨f, hf, rfl⟩ := List.mem_map.1 he
    split
    · exact ⟨hh, hk⟩
    · exact H.2 f hf
theorem Alike.end_ (H : Alike EP ER) : Alike (EP.map endCu) (ER.map endCu) := by
  refine ⟨?_, fun e he => ?_⟩
  · have e1 : ∀ E : List Cu, (E.map endCu).map Cu.tag = (E.map Cu.tag).map fun t => (t.1, 0, 0, true) := fun E => by
      rw [List.map_map, List.map_map]
      rfl
    rw [e1, e1, H.1]
  · obtain ⟨f, hf, rfl⟩ := List.mem_map.1 he
    exact ⟨⟨by show (0 : Int) ≤ 0; decide, by show (0 : Int) < _; decide⟩, by show (0 : Int) ≤ 0; decide, by show (0 : Int) < _; decide⟩
end
/-- The document's cursor has gone on. -/
theorem RI.setCu {B : Nat} {w w' : World} {rb : Nat} {most given : Int} {E : List Cu} (H : RI B w rb most given E) (hd : E.Pairwise fun a b => a.id ≠ b.id) {e : Cu} (he : e ∈ E) {h' k' : Int} {d' : Bool} (hc : RefAt w' e.b h' k' d') (hb : But e.b w w') : RI B w' rb most given (E.map fun f => if f.id = e.id then ⟨f.id, f.b, h', k', d'⟩ else f) ∧ ChK kindR B w w' := by
  obtain ⟨vi, vc, h1, h2, h3⟩ := H.ex
  have hce := H.cur e he
  obtain ⟨s, HH, K, hB, _⟩ := hce
  have hne : rb ≠ e.b := fun x => by
    have k1 : w.heap[e.b]? = some _ := hB
    have k2 : w.heap[rb]? = some _ := h1
    rw [← x, k2] at k1
    cases k1
  have e1 : ∀ f : Cu, (if f.id = e.id then (⟨f.id, f.b, h', k', d'⟩ : Cu) else f).id = f.id ∧ (if f.id = e.id then (⟨f.id, f.b, h', k', d'⟩ : Cu) else f).b = f.b := fun f => by split <;> exact ⟨rfl, rfl⟩
  have m1 : (E.map fun f => if f.id = e.id then (⟨f.id, f.b, h', k', d'⟩ : Cu) else f).map (fun e => Value.int .i64 e.id) = E.map fun e => Value.int .i64 e.id := by
    rw [List.map_map]
    exact List.map_congr_left fun f _ => by show Value.int .i64 (if _ then _ else f).id = _; rw [(e1 f).1]
  have m2 : (E.map fun f => if f.id = e.id then (⟨f.id, f.b, h', k', d'⟩ : Cu) else f).map (fun e => Value.pointer (some ⟨e.b, 0, none⟩)) = E.map fun e => Value.pointer (some ⟨e.b, 0, none⟩) := by
    rw [List.map_map]
    exact List.map_congr_left fun f _ => by show Value.pointer (some ⟨(if _ then _ else f).b, 0, none⟩) = _; rw [(e1 f).2]
  have bl : ∀ {i j} (hi : i < E.length) (hj : j < E.length), E[i].b = E[j].b → i = j := fun {i j} hi hj h => by
    rcases Nat.lt_trichotomy i j with c | c | c
    · exact absurd h (List.pairwise_iff_getElem.1 H.dis i j hi hj c)
    · exact c
    · exact absurd h.symm (List.pairwise_iff_getElem.1 H.dis j i hj hi c)
  have il : ∀ {i j} (hi : i < E.length) (hj : j < E.length), E[i].id = E[j].id → i = j := fun {i j} hi hj h => by
    rcases Nat.lt_trichotomy i j with c | c | c
    · exact absurd h (List.pairwise_iff_getElem.1 hd i j hi hj c)
    · exact c
    · exact absurd h.symm (List.pairwise_iff_getElem.1 hd j i hj hi c)
  refine ⟨⟨⟨vi, vc, h1.but hb hne, ?_, ?_⟩, fun f hf => ?_, ?_, ⟨H.lo.1, fun f hf => ?_⟩, by rw [List.length_map]; exact H.small⟩, ChK.but hb (H.lo.2 e he) hB rfl⟩
  · rw [m1, List.length_map]; exact owns_but h2 hb hB (by decide)
  · rw [m2, List.length_map]; exact owns_but h3 hb hB (by decide)
  · obtain ⟨g, hg, rfl⟩ := List.mem_map.1 hf
    obtain ⟨i, hi, rfl⟩ := List.getElem_of_mem hg
    obtain ⟨j, hj, rfl⟩ := List.getElem_of_mem he
    by_cases hid : E[i].id = E[j].id
    · rw [if_pos hid]
      obtain rfl := il hi hj hid
      exact hc
    · rw [if_neg hid]
      exact (H.cur _ hg).but hb fun x => hid (by have := bl hi hj x; subst this; rfl)
  · rw [List.pairwise_map]
    exact H.dis.imp fun {a b} h => by rw [(e1 a).2, (e1 b).2]; exact h
  · obtain ⟨g, hg, rfl⟩ := List.mem_map.1 hf
    rw [(e1 g).2]
    exact H.lo.2 g hg
end Go.Proofs.YtacdbgoffepaaaaDoor
