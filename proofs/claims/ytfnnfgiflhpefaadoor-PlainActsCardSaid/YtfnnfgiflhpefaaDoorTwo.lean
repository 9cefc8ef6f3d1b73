/-
  Two functions beside each other, and a function beside a row of pairs: what stays while one of them is changed. And the lists that the law PlainBack makes.
-/
import Derived.Test.YtfnnfgiflhpefaaDoorAlive
namespace Go.Proofs.YtfnnfgiflhpefaaDoor
open Go.RowKit Go.Lib

structure Two (B : Nat) (w0 w : World) (f g : Nat) (mf mg : Int) (l k : List Pr2) : Prop where
  ex : ∃ S T : Nat → Prop, PF w S f mf l ∧ PF w T g mg k ∧ (∀ i, S i → ¬ T i) ∧ (∀ i, S i → B ≤ i) ∧ (∀ i, T i → B ≤ i)
  bel : Below B w0 w
section
variable {B f g : Nat} {w0 w w' : World} {mf mg : Int} {l k : List Pr2}
theorem Two.swap (H : Two B w0 w f g mf mg l k) : Two B w0 w g f mg mf k l := by
  obtain ⟨S, T, h1, h2, h3, h4, h5⟩ := H.ex
  exact ⟨⟨T, S, h2, h1, fun i hi hs => h3 i hs hi, h5, h4⟩, H.bel⟩
theorem Two.below (H : Two B w0 w f g mf mg l k) (hB : B = w0.heap.size) (hb : Below w.heap.size w w') : Two B w0 w' f g mf mg l k := by
  obtain ⟨S, T, h1, h2, h3, h4, h5⟩ := H.ex
  exact ⟨⟨S, T, h1.below hb, h2.below hb, h3, h4, h5⟩, H.bel.trans (hb.mono (by have := H.bel.size; omega))⟩
theorem Two.drew (H : Two B w0 w f g mf mg l k) (hB : B = w0.heap.size) : Two B w0 w.drew f g mf mg l k := H.below hB (below_drew w)
theorem Two.put (ea : Nat → Addr) (key val : Int) (H : Two B w0 w f g mf mg l k) (hB : B = w0.heap.size) (hE : ErrsAt w0 ea) (hl : l.length < 1000) :
    Calls Tryd.prog 13 #[.pointer (some ⟨f, 0, none⟩), .int .u64 key, .int .u64 val] w fun e w' => e = .returned (errV ea (putNo mf l key)) ∧ Two B w0 w' f g mf mg (putL mf l key val) k := by
  obtain ⟨S, T, h1, h2, h3, h4, h5⟩ := H.ex
  have hs := H.bel.size
  refine (put_c S f mf l key val ea w h1 ((hE.below H.bel (by omega)).one 1 (by omega)) hl).mono ?_
  rintro e w' ⟨rfl, S', p, c, n⟩
  refine ⟨rfl, ⟨S', T, p, h2.chg c (fun i hi hsi => h3 i hsi hi), fun i hi ht => ?_, fun i hi => ?_, h5⟩, H.bel.trans (c.below h4 (by omega))⟩
  · rcases n i hi with c | c
    · exact h3 i c ht
    · have := h2.lt i ht; omega
  · rcases n i hi with c | c
    · exact h4 i c
    · omega
end
/-- A function, and a row of pairs that is not its own. -/
structure One (B : Nat) (w0 w : World) (f : Nat) (m : Int) (l : List Pr2) (xv : Value) (x : List Pr2) : Prop where
  ex : ∃ S : Nat → Prop, PF w S f m l ∧ (∀ i, S i → B ≤ i) ∧ ∀ i, xv.ownBlock = some i → ¬ S i ∧ B ≤ i
  row : w.ownsRow 0 35 2 xv x.length (flat2 x)
  bel : Below B w0 w
section
variable {B f : Nat} {w0 w w' : World} {m : Int} {l x : List Pr2} {xv : Value}
theorem One.below (H : One B w0 w f m l xv x) (hB : B = w0.heap.size) (hb : Below w.heap.size w w') : One B w0 w' f m l xv x := by
  obtain ⟨S, h1, h2, h3⟩ := H.ex
  exact ⟨⟨S, h1.below hb, h2, h3⟩, owns_chg (S := fun _ => False) (Chg.of hb) H.row fun _ _ h => h, H.bel.trans (hb.mono (by have := H.bel.size; omega))⟩
theorem One.put (ea : Nat → Addr) (key val : Int) (H : One B w0 w f m l xv x) (hB : B = w0.heap.size) (hE : ErrsAt w0 ea) (hl : l.length < 1000) :
    Calls Tryd.prog 13 #[.pointer (some ⟨f, 0, none⟩), .int .u64 key, .int .u64 val] w fun e w' => e = .returned (errV ea (putNo m l key)) ∧ One B w0 w' f m (putL m l key val) xv x := by
  obtain ⟨S, h1, h2, h3⟩ := H.ex
  have hs := H.bel.size
  refine (put_c S f m l key val ea w h1 ((hE.below H.bel (by omega)).one 1 (by omega)) hl).mono ?_
  rintro e w' ⟨rfl, S', p, c, n⟩
  refine ⟨rfl, ⟨S', p, fun i hi => ?_, fun i hi => ⟨fun hs' => ?_, (h3 i hi).2⟩⟩, owns_chg c H.row fun i hi => (h3 i hi).1, H.bel.trans (c.below h2 (by omega))⟩
  · rcases n i hi with c | c
    · exact h2 i c
    · omega
  · rcases n i hs' with c | c
    · exact (h3 i hi).1 c
    · have := (H.row.lt i hi).2; omega
theorem One.del (key : Int) (H : One B w0 w f m l xv x) (hB : B = w0.heap.size) :
    Calls Tryd.prog 17 #[.pointer (some ⟨f, 0, none⟩), .int .u64 key] w fun e w' => e = .returned (.bool (look l key).isSome) ∧ One B w0 w' f m (delP key l) xv x := by
  obtain ⟨S, h1, h2, h3⟩ := H.ex
  have hs := H.bel.size
  refine (delete_c S f m l key w h1).mono ?_
  rintro e w' ⟨rfl, p, c⟩
  exact ⟨rfl, ⟨S, p, h2, h3⟩, owns_chg c H.row fun i hi => (h3 i hi).1, H.bel.trans (c.below h2 (by omega))⟩
theorem One.get (key : Int) (H : One B w0 w f m l xv x) (hB : B = w0.heap.size) :
    Calls Tryd.prog 16 #[.pointer (some ⟨f, 0, none⟩), .int .u64 key] w fun e w' => e = .returned (.tuple #[.int .u64 ((look l key).getD 0), .bool (look l key).isSome]) ∧ One B w0 w' f m l xv x := by
  obtain ⟨S, h1, h2, h3⟩ := H.ex
  refine (get_c S f m l key w h1).mono ?_
  rintro e w' ⟨rfl, c⟩
  exact ⟨rfl, H.below hB c⟩
/-- The pairs of a function, as a new row beside it. -/
theorem One.of_pairs (S : Nat → Prop) (h1 : PF w S f m l) (h2 : ∀ i, S i → B ≤ i) (hb : Below B w0 w) (hB : B = w0.heap.size) :
    Calls Tryd.prog 8 #[.pointer (some ⟨f, 0, none⟩)] w fun e w' => ∃ v', e = .returned v' ∧ One B w0 w' f m l v' l ∧ Below w.heap.size w w' := by
  have hs := hb.size
  refine (pairs_c S f m l w h1).mono ?_
  rintro e w' ⟨v', rfl, o, k, b⟩
  exact ⟨v', rfl, ⟨⟨S, h1.below b, h2, fun i hi => ⟨fun c => by have := h1.lt i c; have := k i hi; omega, by have := k i hi; omega⟩⟩, o, hb.trans (b.mono (by omega))⟩, b⟩
end

/-! ### the lists -/
def up (x : Int) : Int := IntKind.u64.wrap (x + 1)
/-- What lies in a function behind the first i keys. -/
def LA (keys : List Int) (i : Nat) (l : List Pr2) : Prop := l.length ≤ i ∧ SortP l ∧ ∀ q, look l q = if q ∈ keys.take i then some (up q) else none
theorem LA.zero (keys : List Int) : LA keys 0 [] := ⟨Nat.le_refl _, List.Pairwise.nil, fun q => by simp [look]⟩
theorem LA.step {keys : List Int} {i : Nat} {l : List Pr2} (H : LA keys i l) (hi : i < keys.length) : LA keys (i + 1) (insP keys[i] (up keys[i]) l) := by
  obtain ⟨h1, h2, h3⟩ := H
  refine ⟨?_, insP_sort h2, fun q => ?_⟩
  · rw [insP_length h2]; split <;> omega
  · rw [look_insP h2, h3, List.take_add_one, List.getElem?_eq_getElem hi]
    simp only [Option.toList_some, List.mem_append, List.mem_singleton]
    by_cases hq : q = keys[i]
    · rw [if_pos hq, if_pos (.inr hq), hq]
    · rw [if_neg hq]
      by_cases hm : q ∈ keys.take i
      · rw [if_pos hm, if_pos (.inl hm)]
      · rw [if_neg hm, if_neg (fun c => c.elim hm hq)]
theorem LA.step? {keys : List Int} {i : Nat} {l : List Pr2} {x : Int} (H : LA keys i l) (hx : keys[i]? = some x) : LA keys (i + 1) (insP x (up x) l) := by
  obtain ⟨hi, h⟩ := List.getElem?_eq_some_iff.1 hx
  rw [← h]
  exact H.step hi
theorem LA.no {keys : List Int} {i : Nat} {l : List Pr2} (H : LA keys i l) (hi : i < 100) (key : Int) : putNo 100 l key = 0 := by
  have := H.1
  rw [putNo, if_pos (.inr (by omega))]
theorem LA.put {keys : List Int} {i : Nat} {l : List Pr2} (H : LA keys i l) (hi : i < 100) (key val : Int) : putL 100 l key val = insP key val l := by
  have := H.1
  rw [putL, if_pos (.inr (by omega))]
theorem LA.meet {keys : List Int} {l k : List Pr2} (H : LA keys keys.length l) (K : LA keys.reverse keys.length k) : k = l := by
  refine sort_ext K.2.1 H.2.1 fun q => ?_
  rw [K.2.2, H.2.2, List.take_of_length_le (Nat.le_refl _), List.take_of_length_le (by simp)]
  simp
theorem diffP_self (l : List Pr2) : diffP l l = [] := by
  induction l with
  | nil => simp [diffP]
  | cons x l ih => rw [diffP.eq_4, if_neg (by omega), if_neg (by omega), if_neg (by simp), ih]
/-- Put, deleted, deleted again. -/
def gone (q : Int) (l : List Pr2) : List Pr2 := delP q (delP q (insP q 9 l))
theorem gone_sort {q : Int} {l : List Pr2} (h : SortP l) : SortP (gone q l) := delP_sort (delP_sort (insP_sort h))
theorem gone_look {q : Int} {l : List Pr2} (h : SortP l) (r : Int) : look (gone q l) r = if r = q then none else look l r := by
  rw [gone, look_delP (delP_sort (insP_sort h)), look_delP (insP_sort h), look_insP h]
  split <;> rfl
theorem gone_no {q : Int} {l : List Pr2} (h : SortP l) (hn : look l q = none) : gone q l = l :=
  sort_ext (gone_sort h) h fun r => by
    rw [gone_look h]
    split
    · rename_i e; rw [e, hn]
    · rfl
theorem gone_yes {q v : Int} {l : List Pr2} (h : SortP l) (hn : look l q = some v) : insP q v (gone q l) = l :=
  sort_ext (insP_sort (gone_sort h)) h fun r => by
    rw [look_insP (gone_sort h), gone_look h]
    split
    · rename_i e; rw [e, hn]
    · rfl
theorem gone_length {q : Int} {l : List Pr2} (h : SortP l) : (gone q l).length ≤ l.length + 1 := by
  have h1 : (insP q 9 l).length ≤ l.length + 1 := by rw [insP_length h]; split <;> omega
  have h2 : (delP q (insP q 9 l)).length ≤ (insP q 9 l).length := by rw [delP_length]; split <;> omega
  have h3 : (gone q l).length ≤ (delP q (insP q 9 l)).length := by rw [gone, delP_length]; split <;> omega
  omega
theorem ins_is {q v : Int} {l : List Pr2} (h : SortP l) : (look (insP q v l) q).isSome = true := by rw [look_insP h, if_pos rfl]; rfl
theorem del_is {q v : Int} {l : List Pr2} (h : SortP l) : (look (delP q (insP q v l)) q).isSome = false := by rw [look_delP (insP_sort h), if_pos rfl]; rfl
end Go.Proofs.YtfnnfgiflhpefaaDoor
