/-
  What closes a law's row: the arguments read as before, whatever their shape.
-/
import Derived.Test.YtajklhlgakpgiaaKit
import Derived.Test.YtajklhlgakpgiaaRows
import Derived.LaidMore
import Derived.Stop.Joined
namespace Go.Proofs.Ytajklhlgakpgiaa
open Go.ChangeShapes Go.WideShapes Go.ChangeAt Go.RowKit

section
variable {H : Type} {enc : TypeId × Value → H} {P : Program}
/-- All arguments read behind the call as before. -/
theorem trodAll_stays (hl : laidOutB P = true) {W W' : World} {sp : Nat → Bool} (ts : List TypeId) : ∀ (vs : List Value) (ds : List (DataW H)) (ps : List MemPlace),
    (∀ t ∈ ts, P.readableRec t = true ∧ t < P.types.size) → DataW.TrodAll enc P W 0 (fun _ => true) true ts vs ds ps → (∀ p ∈ ps, W.sameAt W' p) → (∀ p ∈ ps, sp p.block = true) → DataW.TrodAll enc P W' 0 sp true ts vs ds ps := by
  induction ts with
  | nil => intro vs ds ps _ h _ _; cases vs <;> cases ds <;> simp_all [DataW.TrodAll]
  | cons t ts ih =>
    intro vs ds ps ht h hs hsp
    obtain ⟨v, vs', d, ds', p, q, rfl, rfl, rfl, h0, hr⟩ := trodAll_cons h
    have h1 := WideElems.Trod_stays hl (ht t (by simp)).1 (ht t (by simp)).2 (sp' := sp) h0 (fun x hx => hs x (List.mem_append_left _ hx)) (fun x hx => hsp x (List.mem_append_left _ hx))
    exact trodAll_cons_mk h1 (ih vs' ds' q (fun t h => ht t (List.mem_cons_of_mem _ h)) hr (fun x hx => hs x (List.mem_append_right _ hx)) (fun x hx => hsp x (List.mem_append_right _ hx)))

/-- A law that answered true and left all old memory alone meets its row. -/
theorem law_close {f : Func} {s : ChangeSpec} {apart fresh handsOn again : Bool} {W W' : World} {args : Array Value} {ds gs : List (DataW H)} {before : List MemPlace} {tb : TypeId}
    (hl : laidOutB P = true) (hp : ∀ t ∈ f.params.toList, P.readableRec t = true ∧ t < P.types.size) (hv : s.vars = [])
    (hW : DataW.Whole enc P f.params.toList s.vars apart W args.toList ds gs before) (ht : P.underlying tb = some .bool) (hr : f.resultTypes = #[tb])
    (hfn : s.fn H (ds ++ gs) = { results := [.lit (.bool true)], args := ds }) (hb : Below W.heap.size W W') : s.post enc P f apart fresh handsOn again W args (.bool true) W' := by
  have hlt : ∀ p ∈ before, p.block < W.heap.size := fun p hp => hW.lt p hp
  obtain ⟨p, q, hA, hV, hpq, hz, hn⟩ := hW
  obtain ⟨hg, hq⟩ : gs = [] ∧ q = [] := by rw [hv] at hV; exact trodVars_none hV
  refine law_post (pa := p) (pv := q) ⟨p, q, hA, hV, hpq, hz, hn⟩ ht hr (by rw [hfn]) ?_ ?_ hpq hb
  · intro sp hsp
    rw [hfn]
    exact trodAll_stays hl _ _ _ _ hp hA (fun x hx => hb.same (hlt x (by rw [hpq]; exact List.mem_append_left _ hx))) (fun x hx => hsp x (by rw [hpq]; exact List.mem_append_left _ hx))
  · intro sp _
    rw [hfn, hv]
    subst hq
    exact rfl
end

theorem own : ownKnob Try.prog.godebug = none := by kernel_rfl
theorem laidOut : laidOutB Try.prog = true := by kernel_rfl

end Go.Proofs.Ytajklhlgakpgiaa
