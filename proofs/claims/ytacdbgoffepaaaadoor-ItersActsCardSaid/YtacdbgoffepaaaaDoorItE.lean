/-
  Package iters by contracts: EndAll.
-/
import Derived.Test.YtacdbgoffepaaaaDoorLay24
namespace Go.Proofs.YtacdbgoffepaaaaDoor
open Go.RowKit Go.Lib

/-! ### all cursors done -/
def endCu (e : Cu) : Cu := ⟨e.id, e.b, 0, 0, true⟩
def curV : Option Nat → Value
  | none => .pointer none
  | some b => .pointer (some ⟨b, 0, none⟩)
def endG (left : Lit → Bool) (e : Cu) : Cu := if left (.int .i64 e.id) then e else endCu e
theorem endG_id (left : Lit → Bool) (e : Cu) : (endG left e).id = e.id ∧ (endG left e).b = e.b := by unfold endG; split <;> exact ⟨rfl, rfl⟩
theorem endG_step (left : Lit → Bool) (E : List Cu) (x : Cu) :
    (E.map (endG left)).map (fun f => if f.id = x.id then (⟨f.id, f.b, 0, 0, true⟩ : Cu) else f) = E.map (endG fun z => left z && !z.sameKey (.int .i64 x.id)) := by
  rw [List.map_map]
  congr 1
  funext e
  show (if (endG left e).id = x.id then _ else endG left e) = endG _ e
  rw [(endG_id left e).1, (endG_id left e).2]
  by_cases h : e.id = x.id
  · rw [if_pos h]
    unfold endG
    rw [if_neg (by simp [same_int, h])]
    rfl
  · rw [if_neg h]
    unfold endG
    have : (left (.int .i64 e.id) && !(Lit.int .i64 e.id).sameKey (.int .i64 x.id)) = left (.int .i64 e.id) := by simp [same_int, h]
    simp only [this]
theorem next_entry {D : DataW Nat} {E : List Cu} (h2 : MapRel D E) (hs : E.Pairwise fun a b => a.id < b.id ∧ a.b ≠ b.b) {x : Int} {c : Option Nat} {kl : Lit} {y : DataW Nat × List MemPlace} (hkey : keyOf Tryd.prog 3 (.int .i64 x) = some kl) (hv : curElem (curV c) = some y) (hat : ∀ zd, D.atKey kl zd = y.1) :
    kl = .int .i64 x ∧ ∃ e ∈ E, e.id = x ∧ c = some e.b := by
  obtain ⟨x', e1, e2, _⟩ := Maps.keyOf_int_inv Tryd.underlying3 hkey
  injection e1 with _ e1
  subst e1 e2
  refine ⟨rfl, ?_⟩
  have hhas := Maps.has_true_of_atKey hat
  rw [h2.has] at hhas
  obtain ⟨e, he, hid⟩ := List.any_eq_true.1 hhas
  have hid : e.id = x := by simpa using hid
  refine ⟨e, he, hid, ?_⟩
  have := h2.at_ hs he .nil
  rw [hid, hat] at this
  cases c with
  | none => cases hv; cases this
  | some b =>
    have hv' : (DataW.lit (.int .i64 (b : Int)), []) = y := Option.some.inj hv
    rw [← hv'] at this
    have h3 := (Lit.int.inj (DataW.lit.inj this)).2
    rw [Int.ofNat_inj.1 h3]
theorem iter_of {w : World} {b r n cnt : Nat} {D : DataW Nat} {left : Lit → Bool} {t : TypeId} (h : w.ranges Tryd.prog t curElem b r n D left cnt) : ∃ o, w.heap[r]? = some o ∧ kindI o = true := by
  obtain ⟨es, clock, since, seen, c0, _, _, _, _, hr, _⟩ := h
  exact ⟨_, hr, rfl⟩
theorem chI {B r : Nat} {w w' : World} (hg : w.grownBy w' (some r)) (hr : ∃ o, w.heap[r]? = some o ∧ kindI o = true) (hB : B ≤ r) : ChK kindI B w w' :=
  ⟨hg.os, hg.tape, hg.output, hg.size, fun k hk hx => hg.block k hk fun c => by
    obtain ⟨o, ho, hk2⟩ := hr
    obtain rfl : k = r := Option.some.inj c
    rcases hx with c | c
    · omega
    · rw [c o ho] at hk2; cases hk2⟩
theorem grown_but {b : Nat} {w w' : World} (h : But b w w') : w.grownBy w' (some b) := ⟨h.os, h.tape, h.output, h.size, fun k hk hn => h.block k hk fun e => hn (by rw [e])⟩

set_option maxHeartbeats 1000000 in
set_option maxRecDepth 100000 in
theorem endall_c {B : Nat} {w : World} {tb mb : Nat} {most given : Int} {E : List Cu} {m : Nat} (H : PI B w tb mb most given E m) : Calls Tryd.prog 48 #[.pointer (some ⟨tb, 0, none⟩)] w fun e w' => e = .returned (.tuple #[]) ∧ PI B w' tb mb most given (E.map endCu) m ∧ ChK kindP B w w' := by
  obtain ⟨D, h1, h2⟩ := H.map
  have c2 := H.blk.cell 2
  have hmb := h1.lt
  have hlo := H.lo
  have HM := Lib.hid (And.intro H (And.intro h1 h2))
  clear H h1 h2
  go_enter Tryd.func48, Tryd.ntmps48
  go_wp2_with (at_range; refine wpList_range_own _ rfl _ 104 rfl 3 39 (Maps.int_keyed Tryd.underlying3) Tryd.underlying104 curElem mb m D rfl HM.out.2.1 ?_; intro w0 hrg0 hg0 hs0)
  go_frame
  clear c2
  have hBr : B ≤ w.heap.size := by omega
  have hb0 : Below w.heap.size w w0 := ⟨hg0.os, hg0.tape, hg0.output, hg0.size, fun k hk => hg0.block k hk (by simp)⟩
  have HS := Lib.hid (And.intro hrg0 (And.intro (HM.out.1.below hb0) (ChK.of (K := kindP) (B := B) hb0)))
  clear hrg0 hg0 hs0 hb0
  go_loopw [] (fun wr => ∃ left cnt, wr.ranges Tryd.prog 3 curElem mb w.heap.size m D left cnt ∧ PI B wr tb mb most given (E.map (endG left)) m ∧ ChK kindP B w wr) (fun wr => wr.rangeLeft mb w.heap.size)
  case atStart =>
    refine ⟨_, _, HS.out.1, ?_, HS.out.2.2⟩
    have : E.map (endG (Maps.has D)) = E.map id := List.map_congr_left fun e he => by
      unfold endG
      rw [if_pos]
      · rfl
      · rw [HM.out.2.2.has]
        exact List.any_eq_true.2 ⟨e, he, by simp⟩
    rw [this, List.map_id]
    exact HS.out.2.1
  case round =>
    obtain ⟨left, cnt, hrg, hP, hC⟩ := hrel
    have invK : ∀ key kl, keyOf Tryd.prog 3 key = some kl → ∃ x, key = Value.int .i64 x := fun key kl hk => by
      obtain ⟨x, rfl, _⟩ := Maps.keyOf_int_inv Tryd.underlying3 hk
      exact ⟨x, rfl⟩
    have invV : ∀ v y, curElem v = some y → ∃ c, v = curV c := fun v y hv => by
      rcases curElem_inv hv with ⟨rfl, _⟩ | ⟨b, rfl, _⟩
      · exact ⟨none, rfl⟩
      · exact ⟨some b, rfl⟩
    have hIt := iter_of hrg
    have HP := Lib.hid (And.intro hP (And.intro hC (And.intro hIt hrg)))
    clear hP hC hIt hrg
    go_wp2_with (at_next; refine wpList_next_ranges _ rfl _ rfl 3 (Maps.int_keyed Tryd.underlying3) curElem (Value.int .i64) curV invK invV mb w.heap.size m D left cnt rfl HP.out.2.2.2 ?_ ?_)
    · intro hc0 hl0
      have HF := Lib.hid (And.intro HP.out.1 (And.intro HP.out.2.1 (show E.map (endG left) = E.map endCu from List.map_congr_left fun e _ => by unfold endG; rw [if_neg]; rw [hl0]; decide)))
      clear hc0 hl0
      go_wp2_with fail
      refine bodyPost_end (results_none rfl _ _ _) rfl ?_
      obtain ⟨h1, h2, h3⟩ := HF.out
      rw [h3] at h1
      exact ⟨rfl, h1, h2⟩
    · intro x c kl ya yb w1 cnt1 hkey hlk hv hat hrg1 hlt hg1 hs1 hen
      obtain ⟨rfl, e, he, hid, rfl⟩ := next_entry HM.out.2.2 HM.out.1.sort hkey hv hat
      have hc1 := chI hg1 HP.out.2.2.1 hBr
      have hP1 := HP.out.1.chkI hc1
      have hmem : e ∈ E.map (endG left) := List.mem_map.2 ⟨e, he, by unfold endG; rw [hid, if_pos hlk]⟩
      have hebl := (HM.out.1.cur e he).lt
      have hne : e.b ≠ mb := fun h => by
        have h1 : w.heap[e.b]? = some _ := HM.out.1.cur e he
        obtain ⟨es, clock, hb, _⟩ := HM.out.2.1
        rw [h, hb] at h1
        cases h1
      have HQ := Lib.hid (And.intro hP1 (And.intro (HP.out.2.1.trans hc1.ofI) (And.intro hmem (And.intro hrg1 (And.intro hlt (And.intro hid hne))))))
      have hne2 : e.b ≠ w.heap.size := by omega
      clear hkey hlk hv hat hrg1 hlt hg1 hs1 hc1 hP1 hmem he
      go_wp2_with (go_at_call 33; refine (cur_end e.b e.h e.k e.d w1 (HQ.out.1.cur e HQ.out.2.2.1)).mono ?_; rintro x w2 ⟨rfl, hc2, hb2⟩)
      obtain ⟨q1, q2, q3, q4, q5, q6, _⟩ := HQ.out
      have hst := q1.setCu q3 hc2 hb2
      rw [endG_step left E e, q6] at hst
      have hrk := q4.kept (grown_but hb2) (fun h => hne (Option.some.inj h).symm) (fun h => hne2 (Option.some.inj h).symm)
      go_roundw
      case rel => exact ⟨_, _, hrk, hst.1, q2.trans hst.2⟩
      case measure => rw [hrk.left_eq, HP.out.2.2.2.left_eq]; exact q5
end Go.Proofs.YtacdbgoffepaaaaDoor
