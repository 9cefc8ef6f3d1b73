/-
  What closes a law's row: the arguments read as before, whatever their shape; the listed errors as cells of the world; a start that holds them.
-/
import Derived.Test.YtacdbgoffepaaaaDoorNum
import Derived.Test.YtacdbgoffepaaaaDoorTie
import Derived.LaidMore
import Derived.Stop.Joined
namespace Go.Proofs.YtacdbgoffepaaaaDoor
open Go.ChangeShapes Go.WideShapes Go.ChangeAt Go.RowKit

section
variable {H : Type} {enc : TypeId × Value → H} {P : Program}
/-- All arguments read behind the call as before. -/
theorem trodAll_stays (hl : laidOutB P = true) {W W' : World} {sp : Nat → Bool} (ts : List TypeId) : ∀ (vs : List Value) (ds : List (DataW H)) (ps : List MemPlace),
    (∀ t ∈ ts, P.readableRec t = true ∧ t < P.types.size) → DataW.TrodAll enc P W 0 (fun _ => true) true ts vs ds ps → (∀ p ∈ ps, W.sameAt W' p) → (∀ p ∈ ps, sp p.block = true) → DataW.TrodAll enc P W' 0 sp true ts vs ds ps := by
  induction ts with
  | nil => intro vs ds ps _ h _ _; cases vs <;> cases ds <;> simp_all [DataW.TrodAll]
  | cons t ts ih =>
    intro vs ds ps ht h hs hsp
    obtain ⟨v, vs', d, ds', p, q, rfl, rfl, rfl, h0, hr⟩ := trodAll_cons h
    have h1 := WideElems.Trod_stays hl (ht t (by simp)).1 (ht t (by simp)).2 (sp' := sp) h0 (fun x hx => hs x (List.mem_append_left _ hx)) (fun x hx => hsp x (List.mem_append_left _ hx))
    exact trodAll_cons_mk h1 (ih vs' ds' q (fun t h => ht t (List.mem_cons_of_mem _ h)) hr (fun x hx => hs x (List.mem_append_right _ hx)) (fun x hx => hsp x (List.mem_append_right _ hx)))

/-- A law that answered true and left all old memory alone meets its row. -/
theorem law_close {f : Func} {s : ChangeSpec} {apart fresh handsOn again : Bool} {W W' : World} {args : Array Value} {ds gs : List (DataW H)} {before : List MemPlace} {tb : TypeId}
    (hl : laidOutB P = true) (hp : ∀ t ∈ f.params.toList, P.readableRec t = true ∧ t < P.types.size) (hv : s.vars = [])
    (hW : DataW.Whole enc P f.params.toList s.vars apart W args.toList ds gs before) (ht : P.underlying tb = some .bool) (hr : f.resultTypes = #[tb])
    (hfn : s.fn H (ds ++ gs) = { results := [.lit (.bool true)], args := ds }) (hb : Below W.heap.size W W') : s.post enc P f apart fresh handsOn again W args (.bool true) W' := by
  have hlt : ∀ p ∈ before, p.block < W.heap.size := fun p hp => hW.lt p hp
  obtain ⟨p, q, hA, hV, hpq, hz, hn⟩ := hW
  obtain ⟨hg, hq⟩ : gs = [] ∧ q = [] := by rw [hv] at hV; exact trodVars_none hV
  refine law_post (pa := p) (pv := q) ⟨p, q, hA, hV, hpq, hz, hn⟩ ht hr (by rw [hfn]) ?_ ?_ hpq hb
  · intro sp hsp
    rw [hfn]
    exact trodAll_stays hl _ _ _ _ hp hA (fun x hx => hb.same (hlt x (by rw [hpq]; exact List.mem_append_left _ hx))) (fun x hx => hsp x (by rw [hpq]; exact List.mem_append_left _ hx))
  · intro sp _
    rw [hfn, hv]
    subst hq
    exact rfl
end

theorem own : ownKnob Tryd.prog.godebug = none := by kernel_rfl
theorem laidOut : laidOutB Tryd.prog = true := by kernel_rfl

theorem errStar : "*" ++ "errors.errorString" = "*errors.errorString" := by decide
theorem errRow (u : TypeId) (h : Tryd.prog.typeName? 3 u = some "*errors.errorString") : u = 148 :=
  typeName_ptr_named (nm := "errors.errorString") (by rw [errStar]; kernel_rfl) (by kernel_rfl) (by decide) u (by rw [errStar]; exact h)

/-- What a list of errors that the row lists gives. -/
theorem errs_of (L : List (String × List UInt8)) (gs : List Nat) (hg : ∀ (i : Nat) (x : String × List UInt8), L[i]? = some x → ∃ g, gs[i]? = some g ∧ Tryd.prog.globalNamed x.1 = some g ∧ (Tryd.prog.globals[g]?).map (·.type) = some 27)
    {W : World} (h : laidMet Tryd.prog (L.map (sent "*errors.errorString")) W) :
    ∃ ea : List Addr, ea.length = L.length ∧ ea.Nodup ∧ (∀ a ∈ ea, ∃ c t, W.heap[a.block]? = some (.cells c t (0, 0))) ∧
      ∀ (i : Nat) (a : Addr), ea[i]? = some a → ∃ g, gs[i]? = some g ∧ ErrAt W g a := by
  obtain ⟨ps, hv, hnd, hrows⟩ := h
  obtain ⟨ea, h1, h2, h3, h4⟩ := sents_of (P := Tryd.prog) (nm := "*errors.errorString") (ti := 27) (tp := 148) (te := 172) (ts := 9) Tryd.underlying27
    errRow
    Tryd.underlying148 Tryd.underlying172 rfl rfl Tryd.underlying9 (by kernel_rfl) (by kernel_rfl) L gs ps hg hv hnd hrows
  exact ⟨ea, h1, h2, fun a ha => (h3 a ha).2.2, h4⟩

/-- One listed error. -/
theorem one_of {n : String} {text : List UInt8} {g : Nat} (hg : Tryd.prog.globalNamed n = some g) (ht : (Tryd.prog.globals[g]?).map (·.type) = some 27) {W : World}
    (h : laidMet Tryd.prog [sent "*errors.errorString" (n, text)] W) : ∃ a, ErrAt W g a := by
  obtain ⟨ea, h1, _, _, h4⟩ := errs_of [(n, text)] [g] (fun i x hx => by
    cases i with
    | zero => simp at hx; subst hx; exact ⟨g, rfl, hg, ht⟩
    | succ i => simp at hx) h
  match ea, h1 with
  | [a], _ =>
    obtain ⟨g', hg', hE⟩ := h4 0 a rfl
    simp at hg'
    subst hg'
    exact ⟨a, hE⟩

end Go.Proofs.YtacdbgoffepaaaaDoor
