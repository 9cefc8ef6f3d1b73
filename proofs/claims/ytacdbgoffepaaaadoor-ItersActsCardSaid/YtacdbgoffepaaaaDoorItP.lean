/-
  Package iters by contracts: Len, At, Close, Open, New.
-/
import Derived.Test.YtacdbgoffepaaaaDoorIt0
namespace Go.Proofs.YtacdbgoffepaaaaDoor
open Go.RowKit Go.Lib

def I64 (x : Int) : Prop := -9223372036854775808 ≤ x ∧ x ≤ 9223372036854775807
theorem wf_i64 {x : Int} (h : I64 x) : (Lit.int .i64 x).wf = true := by
  obtain ⟨h1, h2⟩ := h
  have e1 : IntKind.i64.min = -9223372036854775808 := by decide
  have e2 : IntKind.i64.max = 9223372036854775807 := by decide
  simp [Lit.wf, e1, e2]
  omega
theorem key_i64 {x : Int} (h : I64 x) : keyOf Tryd.prog 3 (.int .i64 x) = some (.int .i64 x) := Maps.keyOf_int_mk Tryd.underlying3 (wf_i64 h)
theorem cur_val {v : Value} {ps : List MemPlace} {b : Nat} (h : curElem v = some (.lit (.int .i64 (b : Int)), ps)) : v = .pointer (some ⟨b, 0, none⟩) := by
  rcases curElem_inv h with ⟨_, e⟩ | ⟨b', rfl, e⟩
  · cases e
  · injection e with e _
    injection e with e
    injection e with _ e
    rw [Int.ofNat_inj.1 e]
theorem cur_nil {v : Value} {ps : List MemPlace} (h : curElem v = some (.nil, ps)) : v = .pointer none := by
  rcases curElem_inv h with ⟨e, _⟩ | ⟨b', rfl, e⟩
  · exact e
  · cases e
section
variable {B : Nat} {w w' : World} {tb mb rb : Nat} {most given : Int} {E : List Cu} {m : Nat}
theorem len_c (H : PI B w tb mb most given E m) : Calls Tryd.prog 49 #[.pointer (some ⟨tb, 0, none⟩)] w fun e w' => e = .returned (.int .i64 E.length) ∧ w = w' := by
  obtain ⟨D, h1, h2⟩ := H.map
  have c2 := H.blk.cell 2
  have hsz := h2.size
  have HM := Lib.hid h1
  clear h1 h2 H
  go_enter Tryd.func49, Tryd.ntmps49
  go_wp2_with (at_len; refine wpList_len_own _ rfl _ 104 rfl 3 39 Tryd.underlying104 curElem mb m D rfl HM.out ?_; rw [hsz])
  go_ret
  exact ⟨rfl, rfl⟩
theorem PI.len_run (H : PI B w tb mb most given E m) (ty : TypeId) : (Builtin.len_ #[104] ty #[.map (some mb)]).run Tryd.prog w = .ok (.int .i64 E.length) w := by
  obtain ⟨D, h1, h2⟩ := H.map
  rw [h1.len Tryd.underlying104 ty, h2.size]
theorem at_yes (H : PI B w tb mb most given E m) {e : Cu} (he : e ∈ E) (hid : I64 e.id) : Calls Tryd.prog 46 #[.pointer (some ⟨tb, 0, none⟩), .int .i64 e.id] w fun x w' => x = .returned (.tuple #[.pointer (some ⟨e.b, 0, none⟩), .nilIface]) ∧ w = w' := by
  obtain ⟨D, h1, h2⟩ := H.map
  have c2 := H.blk.cell 2
  have hat := h2.at_ H.sort he .nil
  have hhas : Maps.has D (.int .i64 e.id) = true := by rw [h2.has]; exact List.any_eq_true.2 ⟨e, he, by simp⟩
  have HM := Lib.hid (And.intro h1 (And.intro hat (key_i64 hid)))
  clear h1 h2 H hat hid he
  go_enter Tryd.func46, Tryd.ntmps46
  go_wp2_with (at_lookup; refine wpList_lookup_own_ok _ rfl _ _ 104 rfl 3 39 (Maps.int_keyed Tryd.underlying3) Tryd.underlying104 curElem (Tryd.zeroValue39 _) .nil [] rfl mb m D rfl HM.out.1 _ _ rfl HM.out.2.2 ?_; intro v ps hv; rw [HM.out.2.1] at hv; obtain rfl := cur_val hv; clear hv; rw [hhas])
  go_ret2
  exact ⟨rfl, rfl⟩
theorem at_no (H : PI B w tb mb most given E m) {id : Int} (hn : ∀ e ∈ E, e.id ≠ id) (hid : I64 id) (ea : Addr) (hE : ErrAt w 3 ea) : Calls Tryd.prog 46 #[.pointer (some ⟨tb, 0, none⟩), .int .i64 id] w fun x w' => x = .returned (.tuple #[.pointer none, .iface 148 (.pointer (some ea))]) ∧ Below w.heap.size w w' := by
  obtain ⟨D, h1, h2⟩ := H.map
  have c2 := H.blk.cell 2
  have hat := h2.at_no hn .nil
  have hhas : Maps.has D (.int .i64 id) = false := by rw [h2.has]; exact List.any_eq_false.2 fun e he => by simpa using hn e he
  have HM := Lib.hid (And.intro h1 (And.intro hat (key_i64 hid)))
  have hc : w.cell? ⟨3, 0, none⟩ = some (.iface 148 (.pointer (some ea))) := hE
  clear h1 h2 H hat hid hn hE
  go_enter Tryd.func46, Tryd.ntmps46
  go_wp2_with (at_lookup; refine wpList_lookup_own_ok _ rfl _ _ 104 rfl 3 39 (Maps.int_keyed Tryd.underlying3) Tryd.underlying104 curElem (Tryd.zeroValue39 _) .nil [] rfl mb m D rfl HM.out.1 _ _ rfl HM.out.2.2 ?_; intro v ps hv; rw [HM.out.2.1] at hv; obtain rfl := cur_nil hv; clear hv; rw [hhas])
  go_quiet (fail)
  go_wp2_with fail
  go_ret2
  exact ⟨rfl, below_drewN (Below.refl _ _) _⟩
theorem close_no (H : PI B w tb mb most given E m) {id : Int} (hn : ∀ e ∈ E, e.id ≠ id) (hid : I64 id) (ea : Addr) (hE : ErrAt w 3 ea) : Calls Tryd.prog 44 #[.pointer (some ⟨tb, 0, none⟩), .int .i64 id] w fun x w' => x = .returned (.iface 148 (.pointer (some ea))) ∧ Below w.heap.size w w' := by
  have HA := Lib.hid (at_no H hn hid ea hE)
  clear H hn hid hE
  go_enter Tryd.func44, Tryd.ntmps44
  go_wp2_with (go_at_call 46; refine HA.out.mono ?_; rintro e w1 ⟨rfl, hb⟩)
  go_ret
  exact ⟨rfl, hb⟩
theorem kind_map (es : Array MapEntry) (c : Nat) : kindP (.map es c) = true := rfl
theorem PI.mapTurned {D : DataW Nat} (H : PI B w tb mb most given E m) (F : List Cu) (hF : ∀ e ∈ F, e ∈ E) (hs : F.Pairwise fun a b => a.id < b.id ∧ a.b ≠ b.b) (h : w.mapTurned w' mb) (hm : w'.ownsMap Tryd.prog 3 curElem mb m D) (hr : MapRel D F) : PI B w' tb mb most given F m ∧ ChK kindP B w w' := by
  have hg := h.grown
  obtain ⟨es, clock, es', clock', hb, _⟩ := h
  have keep : ∀ k o, w.heap[k]? = some o → k ≠ mb → w'.heap[k]? = some o := fun k o hk hne => (hg.block k (Array.getElem?_eq_some_iff.1 hk).1 fun c => hne (Option.some.inj c)).trans hk
  have hne : ∀ {g : Nat} {t : TypeId} {cs : Array Value}, Blk w g t cs → g ≠ mb := fun {g t cs} hB e => by
    subst e
    have : w.heap[g]? = some _ := hB
    rw [hb] at this
    cases this
  refine ⟨⟨⟨D, hm, hr⟩, keep _ _ H.blk (hne H.blk), fun e he => keep _ _ (H.cur e (hF e he)) (hne (H.cur e (hF e he))), hs, fun e he => H.ids e (hF e he), H.lo, H.gv⟩, ⟨hg.os, hg.tape, hg.output, hg.size, fun k hk hx => hg.block k hk fun c => ?_⟩⟩
  obtain rfl : k = mb := Option.some.inj c
  rcases hx with c | c
  · have := H.lo.2; omega
  · have := c _ hb
    cases this
theorem close_yes (H : PI B w tb mb most given E m) {e : Cu} (he : e ∈ E) (hid : I64 e.id) : Calls Tryd.prog 44 #[.pointer (some ⟨tb, 0, none⟩), .int .i64 e.id] w fun x w' => x = .returned .nilIface ∧ PI B w' tb mb most given (E.filter fun x => decide (x.id ≠ e.id)) m ∧ ChK kindP B w w' := by
  have HA := Lib.hid (at_yes H he hid)
  obtain ⟨D, h1, h2⟩ := H.map
  have c2 := H.blk.cell 2
  have HM := Lib.hid (And.intro h1 (And.intro (h2.del e.id) (And.intro (key_i64 hid) H)))
  clear h1 h2 H hid he
  go_enter Tryd.func44, Tryd.ntmps44
  go_wp2_with (first
    | (go_at_call 46; refine HA.out.mono ?_; rintro e w1 ⟨rfl, rfl⟩)
    | (at_delete; refine wpList_delete_own _ rfl _ _ 104 3 rfl 39 (Maps.int_keyed Tryd.underlying3) Tryd.underlying104 curElem mb m D rfl HM.out.1 _ _ rfl HM.out.2.2.1 ?_; intro w1 hown1 hturn1))
  go_ret
  have := PI.mapTurned HM.out.2.2.2 (E.filter fun x => decide (x.id ≠ e.id)) (fun x hx => (List.mem_filter.1 hx).1) (HM.out.2.2.2.sort.filter _) hturn1 hown1 HM.out.2.1
  exact ⟨rfl, this⟩
theorem open_no (H : PI B w tb mb most given E m) (hfull : most ≤ E.length) (ea : Addr) (hE : ErrAt w 2 ea) : Calls Tryd.prog 42 #[.pointer (some ⟨tb, 0, none⟩)] w fun x w' => x = .returned (.tuple #[.int .i64 0, .iface 148 (.pointer (some ea))]) ∧ Below w.heap.size w w' := by
  have hd : decide (most ≤ (E.length : Int)) = true := decide_eq_true hfull
  have HM := Lib.hid (And.intro H hE)
  clear H hE
  go_enter Tryd.func42, Tryd.ntmps42
  go_upto_region 1 with fail
  refine region_all (C := Below w.heap.size w) (by kernel_rfl) (by kernel_rfl) (below_drew _) ?_
  have HC0 : Below w.heap.size w w := Below.refl _ _
  open BigFrame in
  repeat (first | go_big_quiet_skip | (go_big_quiet_want; first | (apply quiet_one (hC := HC0); exact rfl; exact Nat.le_of_ble_eq_true rfl; (focus (intro w' hw'; have H1 := HM.out.1.below hw'; have c0 := H1.blk.cell 0; have c2 := H1.blk.cell 2; have hr := fun ty => H1.len_run ty; clear H1; go_big_quiet_op; with_reducible exact rfl)); go_big_quiet_on) | (go_big_quiet_op; apply Exists.intro; refine ⟨fun w' hw' => ?_, ?_⟩; (focus (have H1 := HM.out.1.below hw'; have c0 := H1.blk.cell 0; have c2 := H1.blk.cell 2; have hr := fun ty => H1.len_run ty; clear H1; fail)); go_big_quiet_on)))
  refine wpQuiet_nil ?_
  intro w2 hb2
  have hc : w2.cell? ⟨2, 0, none⟩ = some (.iface 148 (.pointer (some ea))) := HM.out.2.same hb2
  have HB := Lib.hid hb2
  clear hb2 HC0
  go_upto_region 2 with fail
  go_quiet (fail)
  go_wp2_with fail
  go_ret2
  exact ⟨rfl, below_drewN HB.out _⟩
theorem blk_turned {w5 w6 : World} {g : Nat} {t : TypeId} {cs : Array Value} (hB : Blk w5 g t cs) (ht : w5.mapTurned w6 mb) : Blk w6 g t cs := by
  have hg := ht.grown
  obtain ⟨es, clock, es', clock', hb, _⟩ := ht
  have h1 : w5.heap[g]? = some _ := hB
  refine (hg.block g hB.lt fun c => ?_).trans hB
  rw [Option.some.inj c, hb] at h1
  cases h1
/-- An iterator opened. -/
theorem PI.opened {w2 w3 w4 w5 w6 : World} {D : DataW Nat} (H : PI B w tb mb most given E m) (hm : m < 100) (b2 : Below w.heap.size w w2) (e3 : w3 = w2.setCell ⟨tb, 1, none⟩ (.int .i64 (given + 1))) (b4 : Below w3.heap.size w3 w4)
    (hc : CurAt w5 w4.heap.size 0 0 false) (b5 : Below w4.heap.size w4 w5) (hr : MapRel D E) (ho : w6.ownsMap Tryd.prog 3 curElem mb (m + 1) (D.put (.int .i64 (given + 1)) (.lit (.int .i64 w4.heap.size)))) (ht : w5.mapTurned w6 mb) :
    PI B w6 tb mb most (given + 1) (E ++ [⟨given + 1, w4.heap.size, 0, 0, false⟩]) (m + 1) ∧ ChK kindP B w w6 := by
  have H2 := H.below b2
  have ch3 : ChK kindP B w2 w3 := by
    rw [e3]
    exact ChK.but ((But.refl tb w2).set_ 1 _) H.lo.1 H2.blk rfl
  have blk3 : Blk w3 tb 106 #[.int .i64 most, .int .i64 (given + 1), .map (some mb)] := by rw [e3]; exact H2.blk.set_ 1 _
  have cur3 : ∀ e ∈ E, CurAt w3 e.b e.h e.k e.d := fun e he => by
    have hc := H2.cur e he
    refine Blk.but hc (b := tb) (by rw [e3]; exact (But.refl tb w2).set_ 1 _) fun x => ?_
    have h1 : w2.heap[e.b]? = some _ := hc
    have h2 : w2.heap[tb]? = some _ := H2.blk
    rw [x, h2] at h1
    cases h1
  have b45 := b4.trans (b5.mono b4.size)
  have hg := ht.grown
  have ch56 : ChK kindP B w5 w6 ∧ ∀ k o, w5.heap[k]? = some o → k ≠ mb → w6.heap[k]? = some o := by
    obtain ⟨es, clock, es', clock', hb, _⟩ := ht
    refine ⟨⟨hg.os, hg.tape, hg.output, hg.size, fun k hk hx => hg.block k hk fun c => ?_⟩, fun k o hk hne => (hg.block k (Array.getElem?_eq_some_iff.1 hk).1 fun c => hne (Option.some.inj c)).trans hk⟩
    obtain rfl : k = mb := Option.some.inj c
    rcases hx with c | c
    · have := H.lo.2; omega
    · have := c _ hb
      cases this
  have hmb : ∃ es clock, w5.heap[mb]? = some (.map es clock) := by
    obtain ⟨es, clock, es', clock', hb, _⟩ := ht
    exact ⟨es, clock, hb⟩
  have ne5 : ∀ {g : Nat} {t : TypeId} {cs : Array Value}, Blk w5 g t cs → g ≠ mb := fun {g t cs} hB e => by
    obtain ⟨es, clock, hb⟩ := hmb
    have : w5.heap[g]? = some _ := hB
    rw [e, hb] at this
    cases this
  have cur5 : ∀ e ∈ E, CurAt w5 e.b e.h e.k e.d := fun e he => CurAt.below (cur3 e he) b45
  have lt4 : ∀ e ∈ E, e.b < w4.heap.size := fun e he => by
    have := Blk.lt (cur3 e he)
    have := b4.size
    omega
  have hB4 : B ≤ w4.heap.size := by
    have := H.lo.1
    have := blk3.lt
    have := b4.size
    omega
  have idn : ∀ e ∈ E, e.id ≤ given := fun e he => (H.ids e he).2.1
  have gv := H.gv
  refine ⟨⟨⟨_, ho, hr.put fun e he c => by have := idn e he; omega⟩, ch56.2 _ _ (blk3.below b45) (ne5 (blk3.below b45)), ?_, ?_, ?_, H.lo, by omega⟩, (((ChK.of b2).trans ch3).trans (ChK.of b45)).trans ch56.1⟩
  · intro e he
    rcases List.mem_append.1 he with he | he
    · exact ch56.2 _ _ (cur5 e he) (ne5 (cur5 e he))
    · rw [List.mem_singleton.1 he]
      exact ch56.2 _ _ hc (ne5 hc)
  · refine List.pairwise_append.2 ⟨H.sort, List.pairwise_singleton _ _, fun a ha b hb => ?_⟩
    rw [List.mem_singleton.1 hb]
    have := idn a ha
    have := lt4 a ha
    exact ⟨by show a.id < given + 1; omega, by show a.b ≠ w4.heap.size; omega⟩
  · intro e he
    rcases List.mem_append.1 he with he | he
    · have := H.ids e he
      exact ⟨this.1, by omega, this.2.2⟩
    · rw [List.mem_singleton.1 he]
      exact ⟨by show 1 ≤ given + 1; omega, Int.le_refl _, hB4⟩
set_option maxHeartbeats 1000000 in
set_option maxRecDepth 100000 in
theorem open_yes (H : PI B w tb mb most given E m) (hfree : (E.length : Int) < most) (hm : m < 100) : Calls Tryd.prog 42 #[.pointer (some ⟨tb, 0, none⟩)] w fun x w' => x = .returned (.tuple #[.int .i64 (given + 1), .nilIface]) ∧ ∃ b, PI B w' tb mb most (given + 1) (E ++ [⟨given + 1, b, 0, 0, false⟩]) (m + 1) ∧ ChK kindP B w w' := by
  have hd : decide (most ≤ (E.length : Int)) = false := decide_eq_false (by omega)
  have gv := H.gv
  have hI : I64 (given + 1) := ⟨by omega, by omega⟩
  have hwg : IntKind.i64.wrap (given + 1) = given + 1 := by rw [IntKind.wrap_i64]; omega
  have HM := Lib.hid (And.intro H (key_i64 hI))
  clear H gv
  go_enter Tryd.func42, Tryd.ntmps42
  go_upto_region 1 with fail
  refine region_all (C := Below w.heap.size w) (by kernel_rfl) (by kernel_rfl) (below_drew _) ?_
  have HC0 : Below w.heap.size w w := Below.refl _ _
  open BigFrame in
  repeat (first | go_big_quiet_skip | (go_big_quiet_want; first | (apply quiet_one (hC := HC0); exact rfl; exact Nat.le_of_ble_eq_true rfl; (focus (intro w' hw'; have H1 := HM.out.1.below hw'; have c0 := H1.blk.cell 0; have c2 := H1.blk.cell 2; have hr := fun ty => H1.len_run ty; clear H1; go_big_quiet_op; with_reducible exact rfl)); go_big_quiet_on) | (go_big_quiet_op; apply Exists.intro; refine ⟨fun w' hw' => ?_, ?_⟩; (focus (have H1 := HM.out.1.below hw'; have c0 := H1.blk.cell 0; have c2 := H1.blk.cell 2; have hr := fun ty => H1.len_run ty; clear H1; fail)); go_big_quiet_on)))
  refine wpQuiet_nil ?_
  intro w2 hb2
  have H2 := HM.out.1.below hb2
  have c1 := H2.blk.cell 1
  have f1 := H2.blk.free 1
  have HB := Lib.hid (And.intro hb2 H2)
  clear hb2 HC0 H2
  go_upto_region 4 with fail
  clear c1 f1
  obtain ⟨w3, hw3⟩ : ∃ w3, w3 = w2.setCell ⟨tb, 1, none⟩ (.int .i64 (given + 1)) := ⟨_, rfl⟩
  rw [← hw3]
  have blk3 : Blk w3 tb 106 #[.int .i64 most, .int .i64 (given + 1), .map (some mb)] := by rw [hw3]; exact HB.out.2.blk.set_ 1 _
  have hmap3 : ∃ D, w3.ownsMap Tryd.prog 3 curElem mb m D ∧ MapRel D E := by
    obtain ⟨D, h1, h2⟩ := HB.out.2.map
    refine ⟨D, own_same h1 fun o ho => ?_, h2⟩
    rw [hw3, Below.heap_setCell _ _ _ _ fun e => ?_]
    · exact ho
    · obtain ⟨es, clock, hb, _⟩ := h1
      have hb2 : w2.heap[tb]? = some _ := HB.out.2.blk
      have e : mb = tb := e
      rw [← e, hb] at hb2
      cases hb2
  obtain ⟨D, hown3, hrel⟩ := hmap3
  have HX := Lib.hid (And.intro hw3 (And.intro (blk3.below (below_drew w3)) (And.intro hown3.drew hrel)))
  clear hw3 blk3 hown3 hrel
  have HN := Lib.hid (show ∀ w5 : World, Below w3.drew.heap.size w3.drew w5 → ∃ w6, (Instr.mapUpdate 104 (.map (some mb)) (.int .i64 (given + 1)) (.pointer (some ⟨w3.heap.size, 0, none⟩))).run Tryd.prog w5 = .ok () w6 ∧
      w6.ownsMap Tryd.prog 3 curElem mb (m + 1) (D.put (.int .i64 (given + 1)) (.lit (.int .i64 (w3.heap.size : Nat)))) ∧ w5.mapTurned w6 mb ∧ Blk w5 tb 106 #[.int .i64 most, .int .i64 (given + 1), .map (some mb)] ∧ Blk w6 tb 106 #[.int .i64 most, .int .i64 (given + 1), .map (some mb)] from fun w5 hb5 => by
    have hown5 := own_same (w' := w5) HX.out.2.2.1 (fun o ho => (hb5.block mb (Array.getElem?_eq_some_iff.1 ho).1).trans ho)
    obtain ⟨w6, hrun, hown6, hturn6⟩ := hown5.store (Maps.int_keyed Tryd.underlying3) Tryd.underlying104 (Nat.lt_trans hm (by decide)) HM.out.2 (curElem_mk w3.heap.size)
    exact ⟨w6, hrun, hown6, hturn6, HX.out.2.1.below hb5, blk_turned (HX.out.2.1.below hb5) hturn6⟩)
  go_region_held3 (fun w' => w'.cell? ⟨tb, 1, none⟩ = some (.int .i64 (given + 1)) ∧ w'.cell? ⟨tb, 2, none⟩ = some (.map (some mb))) (first | exact ⟨HX.out.2.1.cell 1, HX.out.2.1.cell 2⟩ | exact ⟨HZ.out.2.1.cell 1, HZ.out.2.1.cell 2⟩ | exact ⟨HZ.out.2.2.1.cell 1, HZ.out.2.2.1.cell 2⟩) (first
    | (go_at_call 21; refine (cur_new _).mono ?_; rintro e w5 ⟨rfl, hc5, hb5⟩; obtain ⟨w6, hrun, hz⟩ := HN.out w5 hb5; have HZ := Lib.hid (And.intro hz.1 (And.intro hz.2.2.1 (And.intro hz.2.2.2 (And.intro hz.2.1 (And.intro hc5 hb5))))); clear hc5 hb5 hz))
  go_wp2_with fail
  go_ret2
  obtain ⟨h1, h2, h3, h4, h5, h6⟩ := HZ.out
  refine ⟨rfl, w3.heap.size, ?_⟩
  exact PI.opened (w4 := w3.drew) HM.out.1 hm HB.out.1 HX.out.1 (below_drew w3) h5 h6 HX.out.2.2.2 h1 h4
end
end Go.Proofs.YtacdbgoffepaaaaDoor
