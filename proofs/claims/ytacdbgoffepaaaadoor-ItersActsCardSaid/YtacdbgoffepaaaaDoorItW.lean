/-
  amblerlaw24.ItersActs answers true: the walk.
-/
import Derived.Test.YtacdbgoffepaaaaDoorItA
import Derived.Deep.RegionHeld3
namespace Go.Proofs.YtacdbgoffepaaaaDoor
open Go.RowKit Go.Lib

def Cut (w : World) (tb mb rb ab : Nat) (most : Int) (x : Act5) (j : Nat) (wx : World) : Prop :=
  ∃ (EP ER : List Cu) (m : Nat) (g : Int), m ≤ j + 1 ∧ Alike EP ER ∧ Duo w wx tb mb rb ab most g EP m g ER x
theorem num_many (ea : Nat → Addr) (w : World) (hE : ErrsAt w ea) : Calls Tryd.prog 19 #[.iface 148 (.pointer (some (ea 6)))] w fun e w' => e = .returned (.int .i64 7) ∧ Below w.heap.size w w' := by
  have := num_err ea 6 (by decide) w hE
  simpa using this
theorem num_bad (ea : Nat → Addr) (w : World) (hE : ErrsAt w ea) : Calls Tryd.prog 19 #[.iface 148 (.pointer (some (ea 5)))] w fun e w' => e = .returned (.int .i64 6) ∧ Below w.heap.size w w' := by
  have := num_err ea 5 (by decide) w hE
  simpa using this
theorem num_range (ea : Nat → Addr) (w : World) (hE : ErrsAt w ea) : Calls Tryd.prog 19 #[.iface 148 (.pointer (some (ea 0)))] w fun e w' => e = .returned (.int .i64 1) ∧ Below w.heap.size w w' := by
  have := num_err ea 0 (by decide) w hE
  simpa using this

theorem closer_id {B : Nat} {w : World} {rb : Nat} {most given : Int} {E : List Cu} (H : RI B w rb most given E) (hd : E.Pairwise fun a b => a.id ≠ b.id) {f : Cu} (hf : f ∈ E) {id : Int} (h : f.id = id) : Calls Tryd.prog 45 #[.pointer (some ⟨rb, 0, none⟩), .int .i64 id] w fun x w' => x = .returned (.int .i64 0) ∧ RI B w' rb most given (E.filter fun x => decide (x.id ≠ id)) ∧ ChK kindR B w w' := by
  subst h
  exact closer_yes H hd hf
theorem atr_id {B : Nat} {w : World} {rb : Nat} {most given : Int} {E : List Cu} (H : RI B w rb most given E) (hd : E.Pairwise fun a b => a.id ≠ b.id) {f : Cu} (hf : f ∈ E) {id : Int} (h : f.id = id) : Calls Tryd.prog 47 #[.pointer (some ⟨rb, 0, none⟩), .int .i64 id] w fun x w' => x = .returned (.tuple #[.pointer (some ⟨f.b, 0, none⟩), .int .i64 0]) ∧ Below w.heap.size w w' := by
  subst h
  exact atr_yes H hd hf
theorem tag_eq {e f : Cu} (h : f.tag = e.tag) : f.id = e.id ∧ f.h = e.h ∧ f.k = e.k ∧ f.d = e.d := by
  simpa [Cu.tag] using h
theorem ri_cur {B : Nat} {w : World} {rb : Nat} {most given : Int} {E : List Cu} (H : RI B w rb most given E) {e f : Cu} (hf : f ∈ E) (h : f.tag = e.tag) : RefAt w f.b e.h e.k e.d := by
  obtain ⟨_, h1, h2, h3⟩ := tag_eq h
  have := H.cur f hf
  rw [h1, h2, h3] at this
  exact this
theorem ri_set {B : Nat} {w w' : World} {rb : Nat} {most given : Int} {E : List Cu} (H : RI B w rb most given E) (hd : E.Pairwise fun a b => a.id ≠ b.id) {f : Cu} (hf : f ∈ E) {id : Int} (h : f.id = id) {h' k' : Int} {d' : Bool} (hc : RefAt w' f.b h' k' d') (hb : But f.b w w') : RI B w' rb most given (E.map fun g => if g.id = id then ⟨g.id, g.b, h', k', d'⟩ else g) ∧ ChK kindR B w w' := by
  subst h
  exact H.setCu hd hf hc hb

/-- The first i have been ended. -/
def endTo (E : List Cu) (i : Nat) (f : Cu) : Cu := if f.id ∈ (E.take i).map Cu.id then endCu f else f
theorem endTo_zero (E : List Cu) : E.map (endTo E 0) = E := by
  have : endTo E 0 = id := by funext f; simp [endTo]
  rw [this, List.map_id]
theorem endTo_all (E : List Cu) : E.map (endTo E E.length) = E.map endCu := List.map_congr_left fun f hf => by
  unfold endTo
  rw [List.take_length, if_pos (List.mem_map.2 ⟨f, hf, rfl⟩)]
theorem endTo_same (E : List Cu) (i : Nat) (f : Cu) : (endTo E i f).id = f.id ∧ (endTo E i f).b = f.b := by
  unfold endTo
  split <;> exact ⟨rfl, rfl⟩
theorem endTo_step (E : List Cu) (i : Nat) (h : i < E.length) : (E.map (endTo E i)).map (fun g => if g.id = E[i].id then ⟨g.id, g.b, 0, 0, true⟩ else g) = E.map (endTo E (i + 1)) := by
  rw [List.map_map]
  refine List.map_congr_left fun f _ => ?_
  show (if (endTo E i f).id = E[i].id then (⟨(endTo E i f).id, (endTo E i f).b, 0, 0, true⟩ : Cu) else endTo E i f) = endTo E (i + 1) f
  rw [(endTo_same E i f).1, (endTo_same E i f).2]
  have ht : (E.take (i + 1)).map Cu.id = (E.take i).map Cu.id ++ [E[i].id] := by
    rw [List.take_add_one, List.getElem?_eq_getElem h, List.map_append]
    rfl
  unfold endTo
  rw [ht]
  by_cases h1 : f.id = E[i].id
  · rw [if_pos h1, if_pos (List.mem_append.2 (.inr (List.mem_singleton.2 h1)))]
    rfl
  · rw [if_neg h1]
    by_cases h2 : f.id ∈ (E.take i).map Cu.id
    · rw [if_pos h2, if_pos (List.mem_append.2 (.inl h2))]
    · rw [if_neg h2, if_neg fun c => (List.mem_append.1 c).elim h2 fun c => h1 (List.mem_singleton.1 c)]
theorem ptr_cell {w : World} {B n c : Nat} {p : Option Addr} {E : List Cu} (h : w.ownsRow B 62 1 (.slice p n c) n (ptrs E)) {i : Nat} (hi : i < E.length) : ∃ a, p = some a ∧ w.cell? (a.add i) = some (.pointer (some ⟨E[i].b, 0, none⟩)) := by
  obtain ⟨p', c', e1, _, _, _, hR⟩ := row1 h
  injection e1 with e1 _ _
  obtain ⟨a, e2, hc⟩ := hR i (by simpa [ptrs] using hi)
  refine ⟨a, e1.trans e2, ?_⟩
  rw [hc]
  simp [ptrs]
theorem int_cell {w : World} {B n c : Nat} {p : Option Addr} {E : List Cu} (h : w.ownsRow B 3 1 (.slice p n c) n (ids E)) {i : Nat} (hi : i < E.length) : ∃ a, p = some a ∧ w.cell? (a.add i) = some (.int .i64 E[i].id) := by
  obtain ⟨p', c', e1, _, _, _, hR⟩ := row1 h
  injection e1 with e1 _ _
  obtain ⟨a, e2, hc⟩ := hR i (by simpa [ids] using hi)
  refine ⟨a, e1.trans e2, ?_⟩
  rw [hc]
  simp [ids]
section
variable {B : Nat} {w w' : World} {rb : Nat} {most given : Int} {E : List Cu}
theorem end_cur {i : Nat} (H : RI B w rb most given (E.map (endTo E i))) (hi : i < E.length) : ∃ (s : Bool) (HH K : Int), Blk w E[i].b 64 #[.bool s, .bool (endTo E i E[i]).d, .int .u64 HH, .int .u64 K] ∧ (0 ≤ HH ∧ HH < 18446744073709551616) ∧ 0 ≤ K ∧ K < 18446744073709551616 := by
  obtain ⟨s, HH, K, hB, hH, hK, _⟩ := H.cur (endTo E i E[i]) (List.mem_map.2 ⟨_, List.getElem_mem hi, rfl⟩)
  rw [(endTo_same E i E[i]).2] at hB
  exact ⟨s, HH, K, hB, hH, hK⟩
theorem end_step {i : Nat} (H : RI B w rb most given (E.map (endTo E i))) (hd : E.Pairwise fun a b => a.id ≠ b.id) (hi : i < E.length) {s d : Bool} {HH K : Int} (hB : Blk w E[i].b 64 #[.bool s, .bool d, .int .u64 HH, .int .u64 K]) (hH : 0 ≤ HH ∧ HH < 18446744073709551616) (hK : 0 ≤ K ∧ K < 18446744073709551616) :
    RI B (w.setCell ⟨E[i].b, 1, none⟩ (.bool true)) rb most given (E.map (endTo E (i + 1))) ∧ ChK kindR B w (w.setCell ⟨E[i].b, 1, none⟩ (.bool true)) := by
  have hdE : (E.map (endTo E i)).Pairwise fun a b => a.id ≠ b.id := by
    rw [List.pairwise_map]
    exact hd.imp fun {a b} h => by rw [(endTo_same E i a).1, (endTo_same E i b).1]; exact h
  have hm : endTo E i E[i] ∈ E.map (endTo E i) := List.mem_map.2 ⟨_, List.getElem_mem hi, rfl⟩
  have e1 := endTo_same E i E[i]
  have := ri_set (id := E[i].id) (h' := 0) (k' := 0) (d' := true) H hdE hm e1.1 (w' := w.setCell ⟨E[i].b, 1, none⟩ (.bool true)) (by
    rw [e1.2]
    exact ⟨s, HH, K, hB.set_ 1 _, hH, hK, (fun _ => ⟨rfl, rfl⟩), (fun x => by cases x), (fun x => by cases x)⟩) (by rw [e1.2]; exact (But.refl _ _).set_ 1 _)
  rw [endTo_step E i hi] at this
  exact this
end

/-- What the walk knows at the end of a round. -/
structure Look (w0 w : World) (tb mb rb : Nat) (most g : Int) (EP : List Cu) (m : Nat) (ER : List Cu) (p1 : Option Addr) (q1 : Nat) (p2 : Option Addr) (q2 : Nat) : Prop where
  pi : PI w0.heap.size w tb mb most g EP m
  ri : RI w0.heap.size w rb most g ER
  old : Below w0.heap.size w0 w
  blk : Blk w rb 77 #[.int .i64 most, .int .i64 g, .slice p1 EP.length q1, .slice p2 EP.length q2]
  row : w.ownsRow w0.heap.size 3 1 (.slice p1 EP.length q1) EP.length (ids EP)
  row2 : w.ownsRow w0.heap.size 62 1 (.slice p2 EP.length q2) EP.length (ptrs ER)
section
variable {w0 w w' : World} {tb mb rb ab : Nat} {most g : Int} {EP ER : List Cu} {m : Nat} {p1 p2 : Option Addr} {q1 q2 : Nat} {x : Act5}
theorem Look.below (H : Look w0 w tb mb rb most g EP m ER p1 q1 p2 q2) (hb : Below w.heap.size w w') : Look w0 w' tb mb rb most g EP m ER p1 q1 p2 q2 :=
  ⟨H.pi.below hb, H.ri.below hb, H.old.trans (hb.mono H.old.size), H.blk.below hb, owns_old hb H.row, owns_old hb H.row2⟩
theorem Look.make (H : Duo w0 w tb mb rb ab most g EP m g ER x) (hA : Alike EP ER) : ∃ p1 q1 p2 q2, Look w0 w tb mb rb most g EP m ER p1 q1 p2 q2 := by
  obtain ⟨p1, q1, p2, q2, h1, h2, h3, _⟩ := H.ri.cells
  have hi : ids ER = ids EP := by rw [ids_nums, ids_nums, hA.ids]
  rw [← hA.len] at h1 h2 h3
  rw [hi] at h2
  exact ⟨p1, q1, p2, q2, H.pi, H.ri, H.old, h1, h2, h3⟩
theorem look_ptr {a2 : Addr} (H : Look w0 w tb mb rb most g EP m ER p1 q1 (some a2) q2) {i : Nat} (hi : i < ER.length) : w.cell? (a2.add i) = some (.pointer (some ⟨ER[i].b, 0, none⟩)) := by
  obtain ⟨a, e, h⟩ := ptr_cell H.row2 hi
  injection e with e
  rw [e]
  exact h
theorem ref_done {b : Nat} {h k : Int} {d : Bool} (H : RefAt w b h k d) : w.cell? ⟨b, 1, none⟩ = some (.bool d) := by
  obtain ⟨s, HH, K, hB, _⟩ := H
  exact hB.cell 1
end

set_option maxHeartbeats 2000000 in
set_option maxRecDepth 100000 in
theorem iters_walk (most : Int) (p : Option Addr) (n cap : Nat) (F : Nat → Act5) (w : World) (ea : Nat → Addr) (hE : ErrsAt w ea) (hA : Acts5 w p n F) (hF : ∀ i, i < n → (F i).ok) (_hn : n ≤ maxLen) :
    Calls Tryd.prog 9 #[.int .i64 most, .slice p n cap] w fun e w' => e = .returned (.bool true) ∧ Below w.heap.size w w' := by
  have HA := Lib.hid (And.intro hE (And.intro hA hF))
  clear hE hA hF
  go_enter Tryd.func9, Tryd.ntmps9
  go_upto_region 3 with (go_at_call 40; refine (alive24 _).mono ?_; rintro e w2 ⟨rfl, hb2⟩)
  have HK := Lib.hid hb2
  clear hb2
  by_cases h60 : 60 < n
  · have h60' : (60 : Int) < n := by omega
    clear h60
    go_wp2
    go_ret
    exact ⟨rfl, HK.out⟩
  have h60' : (n : Int) ≤ 60 := by omega
  have hn60 : n ≤ 60 := by omega
  clear h60 _hn
  by_cases hr : most < 1 ∨ 8 < most
  · have HR := Lib.hid hr
    have hd : (decide (most < 1) = true) ∨ (decide (most < 1) = false ∧ decide (8 < most) = true) := by
      by_cases h1 : most < 1
      · exact .inl (decide_eq_true h1)
      · exact .inr ⟨decide_eq_false h1, decide_eq_true (by omega)⟩
    clear hr
    rcases hd with d1 | ⟨d1, d2⟩
    all_goals
      go_wp2_with (first
        | (go_at_call 41; refine (new_no _ HR.out (ea 0) ((HA.out.1.below HK.out (Nat.le_refl _)).one 0 (by decide))).mono ?_; rintro e w3 ⟨rfl, hb3⟩; replace HK := Lib.hid (HK.out.trans (hb3.mono HK.out.size)); clear hb3)
        | (go_at_call 19; refine (num_range ea _ (HA.out.1.below HK.out (Nat.le_refl _))).mono ?_; rintro e w4 ⟨rfl, hb4⟩; replace HK := Lib.hid (HK.out.trans (hb4.mono HK.out.size)); clear hb4))
      go_ret
      exact ⟨rfl, HK.out⟩
  have m1 : 1 ≤ most := by omega
  have m8 : most ≤ 8 := by omega
  have d1 : decide (most < 1) = false := decide_eq_false (by omega)
  have d2 : decide (8 < most) = false := decide_eq_false (by omega)
  clear hr
  go_upto_region 11 with (go_at_call 41; refine (new_yes _ m1 m8).mono ?_; rintro e w3 ⟨tb, mb, rfl, hP3, hb3⟩)
  generalize hw1 : w3.alloc (Obj.cells #[Value.int IntKind.i64 most, Value.int IntKind.i64 0, Value.slice none 0 0, Value.slice none 0 0] 77) = w1
  have hB1 : Below w3.heap.size w3 w1 := by subst hw1; exact (Below.refl _ _).alloc (Nat.le_refl _) _
  have hR1 : Blk w1 w3.heap.size 77 #[.int .i64 most, .int .i64 0, .slice none 0 0, .slice none 0 0] := by subst hw1; exact Blk.new w3 _ _
  have h23 : w.heap.size ≤ w2.heap.size := HK.out.size
  have h34 : w2.heap.size ≤ w3.heap.size := hb3.size
  have HS0 := Lib.hid (show PI w.heap.size w1 tb mb most 0 [] 0 ∧ RI w.heap.size w1 w3.heap.size most 0 [] ∧ Below w.heap.size w w1 from
    ⟨(hP3.lower h23).below hB1, ⟨⟨_, _, hR1, ⟨rfl, .inl ⟨rfl, rfl⟩⟩, ⟨rfl, .inl ⟨rfl, rfl⟩⟩⟩, (fun e he => by cases he), List.Pairwise.nil, ⟨by omega, (fun e he => by cases he)⟩, by decide⟩, (HK.out.trans (hb3.mono h23)).trans (hB1.mono (by omega))⟩)
  clear hP3 hb3 HK hw1 hB1 hR1 h23 h34 d1 d2
  generalize w3.heap.size = rb at *
  go_wp2_with fail
  go_loopw [62] (fun i wr => ∃ (j : Nat) (EP ER : List Cu) (m : Nat) (g : Int), j ≤ n ∧ i = .int .i64 j ∧ m ≤ j ∧ Alike EP ER ∧ PI w.heap.size wr tb mb most g EP m ∧ RI w.heap.size wr rb most g ER ∧ Below w.heap.size w wr) (fun i _ => n - (RowKit.intOf i).toNat)
  case atStart => exact ⟨0, [], [], 0, 0, by omega, rfl, Nat.le_refl _, ⟨rfl, fun e he => by cases he⟩, HS0.out⟩
  case round =>
    obtain ⟨j, EP, ER, m, g, hj, rfl, hm, hAL, hP, hR, hO⟩ := hrel
    have HAL := Lib.hid hAL
    by_cases hlt : j < n
    · obtain ⟨a, rfl, ha0, ha1, ha2, ha3, ha4⟩ := (HA.out.2.1.below hO) j hlt
      have hok := HA.out.2.2 j hlt
      generalize F j = x at *
      obtain ⟨kd, nu, ak, av, ah⟩ := x
      have HOK := Lib.hid hok
      have HO := Lib.hid (And.intro hP (And.intro hR hO))
      clear hok hP hR hO hAL
      simp only at ha0 ha1 ha2 ha3 ha4
      go_upto_region 14 with fail
      generalize hw4 : wr.alloc (Obj.cells #[Value.int IntKind.i64 kd, Value.int IntKind.i64 nu, Value.int IntKind.u64 ak, Value.int IntKind.u64 av, Value.int IntKind.u64 ah] 79) = w4
      have hB4 : Below wr.heap.size wr w4 := by subst hw4; exact (Below.refl _ _).alloc (Nat.le_refl _) _
      have hE4 : Blk w4 wr.heap.size 79 #[.int .i64 kd, .int .i64 nu, .int .u64 ak, .int .u64 av, .int .u64 ah] := by subst hw4; exact Blk.new wr _ _
      have HS := Lib.hid (show Duo w w4 tb mb rb wr.heap.size most g EP m g ER ⟨kd, nu, ak, av, ah⟩ from ⟨HO.out.1.below hB4, HO.out.2.1.below hB4, HO.out.2.2.trans (hB4.mono HO.out.2.2.size), hE4⟩)
      clear hw4 hB4 hE4 ha0 ha1 ha2 ha3 ha4 HO
      generalize wr.heap.size = ab at *
      obtain ⟨c3, c4, c5, c6, c7⟩ : w4.cell? ⟨ab, 0, none⟩ = some (.int .i64 kd) ∧ w4.cell? ⟨ab, 1, none⟩ = some (.int .i64 nu) ∧ w4.cell? ⟨ab, 2, none⟩ = some (.int .u64 ak) ∧ w4.cell? ⟨ab, 3, none⟩ = some (.int .u64 av) ∧ w4.cell? ⟨ab, 4, none⟩ = some (.int .u64 ah) := HS.out.cells
      go_upto_block 2 with fail
      go_cut [68] (fun s68 wx => Cut w tb mb rb ab most ⟨kd, nu, ak, av, ah⟩ j wx)
      case first =>
        by_cases kz : kd = 0
        · subst kz
          by_cases hfull : most ≤ EP.length
          · as_aux_lemma =>
              have X1 := Lib.hid (fun (W : World) (H : PI w.heap.size W tb mb most g EP m) hE => open_no H hfull (ea 6) hE)
              have hfr : most ≤ ER.length := by rw [← HAL.out.len]; exact hfull
              have X2 := Lib.hid (fun (W : World) (H : RI w.heap.size W rb most g ER) => openr_no H hfr)
              clear hfull hfr
              go_wp2_with (first
                | (go_at_call 42; refine (X1.out _ HS.out.pi ((HA.out.1.below HS.out.old (Nat.le_refl _)).one 6 (by decide))).mono ?_; rintro e w5 ⟨rfl, hb5⟩; replace HS := Lib.hid (HS.out.below hb5); clear hb5)
                | (go_at_call 43; refine (X2.out _ HS.out.ri).mono ?_; rintro e w5 ⟨rfl, hb5⟩; replace HS := Lib.hid (HS.out.below hb5); clear hb5)
                | (go_at_call 19; refine (num_many ea _ (HA.out.1.below HS.out.old (Nat.le_refl _))).mono ?_; rintro e w5 ⟨rfl, hb5⟩; replace HS := Lib.hid (HS.out.below hb5); clear hb5))
              go_meet
              exact ⟨EP, ER, m, g, by omega, HAL.out, HS.out⟩
          · as_aux_lemma =>
              have hf1 : (EP.length : Int) < most := by omega
              have hf2 : (ER.length : Int) < most := by rw [← HAL.out.len]; exact hf1
              have hgv := HS.out.pi.gv
              have X1 := Lib.hid (fun (W : World) (H : PI w.heap.size W tb mb most g EP m) => open_yes H hf1 (by omega : m < 100))
              have X2 := Lib.hid (fun (W : World) (H : RI w.heap.size W rb most g ER) => openr_yes H hf2 (by omega) hgv.1 (by omega))
              have hgg : ((g + 1 : Int) != g + 1) = false := by simp
              clear hfull hf1 hf2 hgv
              go_wp2_with (first
                | (go_at_call 42; refine (X1.out _ HS.out.pi).mono ?_; rintro e w5 ⟨rfl, b1, hP5, hC5⟩; replace HS := Lib.hid (HS.out.left hP5 hC5); clear hP5 hC5)
                | (go_at_call 43; refine (X2.out _ HS.out.ri).mono ?_; rintro e w6 ⟨rfl, b2, hR6, hC6⟩; replace HS := Lib.hid (HS.out.right hR6 hC6); clear hR6 hC6)
                | (go_at_call 19; refine (num_nil _).mono ?_; rintro e w7 ⟨rfl, hb7⟩; replace HS := Lib.hid (HS.out.below hb7); clear hb7))
              go_meet
              exact ⟨_, _, m + 1, g + 1, by omega, HAL.out.open_ _ b1 b2, HS.out⟩
        · by_cases k1 : kd = 1
          · subst k1
            clear kz
            have hI := HOK.out.1
            by_cases hin : ∃ e ∈ EP, e.id = nu
            · as_aux_lemma =>
                obtain ⟨e, he, rfl⟩ := hin
                obtain ⟨f, hf, hft⟩ := HAL.out.other he
                have hdf := HAL.out.dif HS.out.pi.sort
                have X1 := Lib.hid (fun (W : World) (H : PI w.heap.size W tb mb most g EP m) => close_yes H he hI)
                have X2 := Lib.hid (fun (W : World) (H : RI w.heap.size W rb most g ER) => closer_id H hdf hf (tag_eq hft).1)
                clear hI he hf hft hdf
                generalize e.id = id at *
                go_upto_region 21 with fail
                replace HS := Lib.hid (HS.out.below (below_drew _))
                go_region_held3 (fun w' => w'.cell? ⟨ab, 1, none⟩ = some (.int .i64 id)) (exact HS.out.cells.2.1) (first
                  | (go_at_call 44; refine (X1.out _ HS.out.pi).mono ?_; rintro e w5 ⟨rfl, hP5, hC5⟩; replace HS := Lib.hid (HS.out.left hP5 hC5); clear hP5 hC5)
                  | (go_at_call 19; refine (num_nil _).mono ?_; rintro e w5 ⟨rfl, hb5⟩; replace HS := Lib.hid (HS.out.below hb5); clear hb5)
                  | (go_at_call 45; refine (X2.out _ HS.out.ri).mono ?_; rintro e w5 ⟨rfl, hR5, hC5⟩; replace HS := Lib.hid (HS.out.right hR5 hC5); clear hR5 hC5))
                go_wp2
                go_meet
                exact ⟨_, _, m, g, by omega, HAL.out.close id, HS.out⟩
            · as_aux_lemma =>
                have hn1 : ∀ e ∈ EP, e.id ≠ nu := fun e he h => hin ⟨e, he, h⟩
                have hn2 := HAL.out.none hn1
                have X1 := Lib.hid (fun (W : World) (H : PI w.heap.size W tb mb most g EP m) hE => close_no H hn1 hI (ea 5) hE)
                have X2 := Lib.hid (fun (W : World) (H : RI w.heap.size W rb most g ER) => closer_no H hn2)
                clear hI hin hn1 hn2
                go_upto_region 21 with fail
                replace HS := Lib.hid (HS.out.below (below_drew _))
                go_region_held3 (fun w' => w'.cell? ⟨ab, 1, none⟩ = some (.int .i64 nu)) (exact HS.out.cells.2.1) (first
                  | (go_at_call 44; refine (X1.out _ HS.out.pi ((HA.out.1.below HS.out.old (Nat.le_refl _)).one 5 (by decide))).mono ?_; rintro e w5 ⟨rfl, hb5⟩; replace HS := Lib.hid (HS.out.below hb5); clear hb5)
                  | (go_at_call 19; refine (num_bad ea _ (HA.out.1.below HS.out.old (Nat.le_refl _))).mono ?_; rintro e w5 ⟨rfl, hb5⟩; replace HS := Lib.hid (HS.out.below hb5); clear hb5)
                  | (go_at_call 45; refine (X2.out _ HS.out.ri).mono ?_; rintro e w5 ⟨rfl, hb5⟩; replace HS := Lib.hid (HS.out.below hb5); clear hb5))
                go_wp2
                go_meet
                exact ⟨EP, ER, m, g, by omega, HAL.out, HS.out⟩
          · have kz' : (kd == 0) = false := by simpa using kz
            have k1' : (kd == 1) = false := by simpa using k1
            clear kz k1
            by_cases k2 : kd = 2
            · subst k2
              have hI := HOK.out.1
              by_cases hin : ∃ e ∈ EP, e.id = nu
              · obtain ⟨e, he, rfl⟩ := hin
                obtain ⟨f, hf, hft⟩ := HAL.out.other he
                have hdf := HAL.out.dif HS.out.pi.sort
                have X1 := Lib.hid (fun (W : World) (H : PI w.heap.size W tb mb most g EP m) => at_yes H he hI)
                have X2 := Lib.hid (fun (W : World) (H : RI w.heap.size W rb most g ER) => atr_id H hdf hf (tag_eq hft).1)
                by_cases hL : (e.d || lessB ah ak e.h e.k) = true
                · as_aux_lemma =>
                    have X4 := Lib.hid (fun (W : World) (H : PI w.heap.size W tb mb most g EP m) hE => cur_pass_no e.b e.h e.k e.d ak av ah (ea 4) W (H.cur e he) hE hL)
                    have X5 := Lib.hid (fun (W : World) (H : RI w.heap.size W rb most g ER) => ref_pass_no f.b e.h e.k e.d ak av ah W (ri_cur H hf hft) HOK.out.2.2 HOK.out.2.1 hL)
                    clear hI he hf hft hdf hL
                    go_upto_region 28 with (first
                      | (go_at_call 46; refine (X1.out _ HS.out.pi).mono ?_; rintro e5 w5 ⟨rfl, rfl⟩)
                      | (go_at_call 47; refine (X2.out _ HS.out.ri).mono ?_; rintro e5 w5 ⟨rfl, hb5⟩; replace HS := Lib.hid (HS.out.below hb5); clear hb5; obtain ⟨c3, c4, c5, c6, c7⟩ : w5.cell? ⟨ab, 0, none⟩ = some (.int .i64 2) ∧ w5.cell? ⟨ab, 1, none⟩ = some (.int .i64 e.id) ∧ w5.cell? ⟨ab, 2, none⟩ = some (.int .u64 ak) ∧ w5.cell? ⟨ab, 3, none⟩ = some (.int .u64 av) ∧ w5.cell? ⟨ab, 4, none⟩ = some (.int .u64 ah) := HS.out.cells)
                      | (go_at_call 19; refine (num_nil _).mono ?_; rintro e5 w6 ⟨rfl, hb6⟩; replace HS := Lib.hid (HS.out.below hb6); clear hb6))
                    replace HS := Lib.hid (HS.out.below (below_drew _))
                    go_region_held3 (fun w' => w'.cell? ⟨ab, 2, none⟩ = some (.int .u64 ak) ∧ w'.cell? ⟨ab, 3, none⟩ = some (.int .u64 av) ∧ w'.cell? ⟨ab, 4, none⟩ = some (.int .u64 ah)) (exact HS.out.cells.2.2) (first
                      | (go_at_call 24; refine (X4.out _ HS.out.pi ((HA.out.1.below HS.out.old (Nat.le_refl _)).one 4 (by decide))).mono ?_; rintro e5 w7 ⟨rfl, hb7⟩; replace HS := Lib.hid (HS.out.below hb7); clear hb7)
                      | (go_at_call 19; refine (num_state ea _ (HA.out.1.below HS.out.old (Nat.le_refl _))).mono ?_; rintro e5 w7 ⟨rfl, hb7⟩; replace HS := Lib.hid (HS.out.below hb7); clear hb7)
                      | (go_at_call 35; refine (X5.out _ HS.out.ri).mono ?_; rintro e5 w7 ⟨rfl, hb7⟩; replace HS := Lib.hid (HS.out.below hb7); clear hb7))
                    go_wp2
                    go_meet
                    exact ⟨EP, ER, m, g, by omega, HAL.out, HS.out⟩
                · as_aux_lemma =>
                    have hd0 : e.d = false := by
                      cases h : e.d with
                      | false => rfl
                      | true => simp [h] at hL
                    have hL2 : lessB ah ak e.h e.k = false := by simpa [hd0] using hL
                    have X4 := Lib.hid (fun (W : World) (H : PI w.heap.size W tb mb most g EP m) => cur_pass_yes e.b e.h e.k ak av ah W (by have := H.cur e he; rw [hd0] at this; exact this) HOK.out.2.1.1 HOK.out.2.2.1 hL2)
                    have X5 := Lib.hid (fun (W : World) (H : RI w.heap.size W rb most g ER) => ref_pass_yes f.b e.h e.k ak av ah W (by have := ri_cur H hf hft; rw [hd0] at this; exact this) HOK.out.2.2 HOK.out.2.1 hL2)
                    have hbn := Lib.hid (after_bounds ah ak HOK.out.2.2.1 HOK.out.2.2.2 HOK.out.2.1.1 HOK.out.2.1.2)
                    have HE := Lib.hid (And.intro he (And.intro hdf (And.intro hf (tag_eq hft).1)))
                    clear hI he hf hft hdf hL hL2 hd0
                    generalize afterH ak ah = nh at *
                    generalize afterK ak = nk at *
                    generalize (!afterB ak ah) = nd at *
                    go_upto_region 28 with (first
                      | (go_at_call 46; refine (X1.out _ HS.out.pi).mono ?_; rintro e5 w5 ⟨rfl, rfl⟩)
                      | (go_at_call 47; refine (X2.out _ HS.out.ri).mono ?_; rintro e5 w5 ⟨rfl, hb5⟩; replace HS := Lib.hid (HS.out.below hb5); clear hb5; obtain ⟨c3, c4, c5, c6, c7⟩ : w5.cell? ⟨ab, 0, none⟩ = some (.int .i64 2) ∧ w5.cell? ⟨ab, 1, none⟩ = some (.int .i64 e.id) ∧ w5.cell? ⟨ab, 2, none⟩ = some (.int .u64 ak) ∧ w5.cell? ⟨ab, 3, none⟩ = some (.int .u64 av) ∧ w5.cell? ⟨ab, 4, none⟩ = some (.int .u64 ah) := HS.out.cells)
                      | (go_at_call 19; refine (num_nil _).mono ?_; rintro e5 w6 ⟨rfl, hb6⟩; replace HS := Lib.hid (HS.out.below hb6); clear hb6))
                    replace HS := Lib.hid (HS.out.below (below_drew _))
                    go_region_held3 (fun w' => w'.cell? ⟨ab, 2, none⟩ = some (.int .u64 ak) ∧ w'.cell? ⟨ab, 3, none⟩ = some (.int .u64 av) ∧ w'.cell? ⟨ab, 4, none⟩ = some (.int .u64 ah)) (exact HS.out.cells.2.2) (first
                      | (go_at_call 24; refine (X4.out _ HS.out.pi).mono ?_; rintro e5 w7 ⟨rfl, hc7, hb7⟩; have hst := HS.out.pi.setCu HE.out.1 hc7 hb7; replace HS := Lib.hid (HS.out.left hst.1 hst.2); clear hb7 hc7 hst)
                      | (go_at_call 19; refine (num_nil _).mono ?_; rintro e5 w7 ⟨rfl, hb7⟩; replace HS := Lib.hid (HS.out.below hb7); clear hb7)
                      | (go_at_call 35; refine (X5.out _ HS.out.ri).mono ?_; rintro e5 w7 ⟨rfl, hc7, hb7⟩; have hst := ri_set HS.out.ri HE.out.2.1 HE.out.2.2.1 HE.out.2.2.2 hc7 hb7; replace HS := Lib.hid (HS.out.right hst.1 hst.2); clear hb7 hc7 hst))
                    go_wp2
                    go_meet
                    exact ⟨_, _, m, g, by omega, HAL.out.set_ e.id nd hbn.out.1 hbn.out.2, HS.out⟩
              · as_aux_lemma =>
                  have hn1 : ∀ e ∈ EP, e.id ≠ nu := fun e he h => hin ⟨e, he, h⟩
                  have hn2 := HAL.out.none hn1
                  have X1 := Lib.hid (fun (W : World) (H : PI w.heap.size W tb mb most g EP m) hE => at_no H hn1 hI (ea 5) hE)
                  have X2 := Lib.hid (fun (W : World) (H : RI w.heap.size W rb most g ER) => atr_no H hn2)
                  clear hI hin hn1 hn2
                  go_upto_region 28 with (first
                    | (go_at_call 46; refine (X1.out _ HS.out.pi ((HA.out.1.below HS.out.old (Nat.le_refl _)).one 5 (by decide))).mono ?_; rintro e5 w5 ⟨rfl, hb5⟩; replace HS := Lib.hid (HS.out.below hb5); clear hb5; have c4 : w5.cell? ⟨ab, 1, none⟩ = some (.int .i64 nu) := HS.out.cells.2.1)
                    | (go_at_call 47; refine (X2.out _ HS.out.ri).mono ?_; rintro e5 w6 ⟨rfl, hb6⟩; replace HS := Lib.hid (HS.out.below hb6); clear hb6)
                    | (go_at_call 19; refine (num_bad ea _ (HA.out.1.below HS.out.old (Nat.le_refl _))).mono ?_; rintro e5 w7 ⟨rfl, hb7⟩; replace HS := Lib.hid (HS.out.below hb7); clear hb7))
                  refine region_all (C := Below w7.heap.size w7) (by kernel_rfl) (by kernel_rfl) (below_drew _) ?_
                  have HC0 : Below w7.heap.size w7 w7 := Below.refl _ _
                  open BigFrame in
                  repeat (first | go_big_quiet_skip | (go_big_quiet_want; first | (apply quiet_one (hC := HC0); exact rfl; exact Nat.le_of_ble_eq_true rfl; (focus (intro w' hw'; go_big_quiet_op; with_reducible exact rfl)); go_big_quiet_on) | (go_big_quiet_op; apply Exists.intro; refine ⟨fun w' hw' => ?_, ?_⟩; (focus (fail)); go_big_quiet_on)))
                  refine wpQuiet_nil ?_
                  intro w8 hb8
                  replace HS := Lib.hid (HS.out.below hb8)
                  clear hb8 HC0
                  go_wp2
                  go_meet
                  exact ⟨EP, ER, m, g, by omega, HAL.out, HS.out⟩
            · have k2' : (kd == 2) = false := by simpa using k2
              clear k2
              by_cases k3 : kd = 3
              · as_aux_lemma =>
                  subst k3
                  have X1 := Lib.hid (fun (W : World) (H : PI w.heap.size W tb mb most g EP m) => endall_c H)
                  have hdf := Lib.hid (HAL.out.dif HS.out.pi.sort)
                  go_upto_region 32 with (go_at_call 48; refine (X1.out _ HS.out.pi).mono ?_; rintro e5 w5 ⟨rfl, hP5, hC5⟩; replace HS := Lib.hid (HS.out.left hP5 hC5); clear hP5 hC5)
                  obtain ⟨p1, q1, p2, q2, h1, h2, h3, _⟩ := HS.out.ri.cells
                  have z3 := h1.cell 3
                  have hsm := HS.out.ri.small
                  have HS0 := Lib.hid (show Duo w w5 tb mb rb ab most g (EP.map endCu) m g (ER.map (endTo ER 0)) ⟨3, nu, ak, av, ah⟩ ∧ w5.ownsRow w.heap.size 62 1 (.slice p2 ER.length q2) ER.length (ptrs ER) from ⟨by rw [endTo_zero]; exact HS.out, h3⟩)
                  clear HS h1 h2 h3 X1
                  go_wp2_with fail
                  go_loopw [151] (fun s wr => ∃ i : Nat, i ≤ ER.length ∧ s = .int .i64 i ∧ Duo w wr tb mb rb ab most g (EP.map endCu) m g (ER.map (endTo ER i)) ⟨3, nu, ak, av, ah⟩ ∧ wr.ownsRow w.heap.size 62 1 (.slice p2 ER.length q2) ER.length (ptrs ER)) (fun s _ => ER.length - (RowKit.intOf s).toNat)
                  case atStart => exact ⟨0, Nat.zero_le _, rfl, HS0.out⟩
                  case round =>
                    obtain ⟨i, hi, rfl, hD, hrow⟩ := hrel
                    have hw3 : IntKind.i64.wrap ((i : Int) + 1) = (i : Int) + 1 := by rw [IntKind.wrap_i64]; omega
                    by_cases hlti : i < ER.length
                    · have hlt1 : (i : Int) < ER.length := by omega
                      obtain ⟨a5, rfl, k0⟩ := ptr_cell hrow hlti
                      obtain ⟨s, HH, K, hB, hH, hK⟩ := end_cur hD.ri hlti
                      have q1 := hB.cell 1
                      have f1 := hB.free 1
                      have HY := Lib.hid (And.intro hD (And.intro hrow (And.intro hB (And.intro hH hK))))
                      have hst := Lib.hid (end_step hD.ri hdf.out hlti hB hH hK)
                      clear hD hrow hB hH hK
                      go_wp2_with fail
                      go_roundw
                      case rel => exact ⟨i + 1, by omega, rfl, HY.out.1.right hst.out.1 hst.out.2, owns_but HY.out.2.1 ((But.refl _ _).set_ 1 _) HY.out.2.2.1 (by decide)⟩
                      case measure => simp only [RowKit.intOf]; omega
                    · obtain rfl : i = ER.length := by omega
                      have hlt1 : ¬ (ER.length : Int) < ER.length := by omega
                      have HS := Lib.hid hD
                      clear hD hrow
                      go_wp2_with fail
                      go_meet
                      refine ⟨EP.map endCu, ER.map endCu, m, g, by omega, HAL.out.end_, ?_⟩
                      have := HS.out
                      rw [endTo_all] at this
                      exact this
              · as_aux_lemma =>
                  have k3' : (kd == 3) = false := by simpa using k3
                  clear k3
                  go_wp2
                  go_meet
                  exact ⟨EP, ER, m, g, by omega, HAL.out, HS.out⟩
      case rest =>
        as_aux_lemma =>
          clear HS c3 c4 c5 c6 c7 HAL
          obtain ⟨EP2, ER2, m2, g2, hm2, hAL2, hD⟩ := hcut
          obtain ⟨p1, q1, p2, q2, hL⟩ := Look.make hD hAL2
          have HAL := Lib.hid hAL2
          have HL := Lib.hid hL
          have hN : EP2.length ≤ 1000 := by rw [hAL2.len]; exact hD.ri.small
          have hnn : ((EP2.length : Int) != EP2.length) = false := by simp
          have X1 := Lib.hid (fun (W : World) (H : PI w.heap.size W tb mb most g2 EP2 m2) => len_c H)
          have X2 := Lib.hid (fun (W : World) (H : PI w.heap.size W tb mb most g2 EP2 m2) => ids_c H)
          clear hAL2 hD hL
          go_upto_region 37 with fail
          replace HL := Lib.hid (HL.out.below (below_drew _))
          go_region_held3 (fun w' => w'.cell? ⟨rb, 2, none⟩ = some (.slice p1 EP2.length q1)) (exact HL.out.blk.cell 2) (first
            | (go_at_call 49; refine (X1.out _ HL.out.pi).mono ?_; rintro e5 w5 ⟨rfl, rfl⟩)
            | (go_at_call 51; refine (X2.out _ HL.out.pi).mono ?_; rintro e5 w5 ⟨v5, rfl, o5, hb5⟩; obtain ⟨p5, q5, rfl, _⟩ := row1 o5; replace HL := Lib.hid (HL.out.below hb5); have HV := Lib.hid o5; clear o5 hb5)
            | (go_at_call 50; refine (sameints (xs := EP2.map Cu.id) _ hN (by rw [← ids_nums]; exact HV.out) (by rw [← ids_nums]; exact HL.out.row)).mono ?_; rintro e5 w5 ⟨rfl, rfl⟩; clear HV))
          clear X1 X2 hnn
          have z2 := HL.out.blk.cell 2
          go_wp2_with fail
          clear z2
          go_loopw [182] (fun s wr => ∃ i : Nat, i ≤ EP2.length ∧ s = .int .i64 i ∧ Look w wr tb mb rb most g2 EP2 m2 ER2 p1 q1 p2 q2) (fun s _ => EP2.length - (RowKit.intOf s).toNat)
          case atStart => exact ⟨0, Nat.zero_le _, rfl, HL.out⟩
          case round =>
            obtain ⟨i, hi, rfl, hLk⟩ := hrel
            replace HL := Lib.hid hLk
            have hw3 : IntKind.i64.wrap ((i : Int) + 1) = (i : Int) + 1 := by rw [IntKind.wrap_i64]; omega
            by_cases hlt2 : i < EP2.length
            · have hlt1 : (i : Int) < EP2.length := by omega
              have hltR : i < ER2.length := by rw [← HAL.out.len]; exact hlt2
              obtain ⟨a1, rfl, k0⟩ := int_cell hLk.row hlt2
              obtain ⟨a2, rfl, _⟩ := ptr_cell hLk.row2 hltR
              have ht : ER2[i].tag = EP2[i].tag := HAL.out.nth i hlt2
              have he : EP2[i] ∈ EP2 := List.getElem_mem hlt2
              have hf : ER2[i] ∈ ER2 := List.getElem_mem hltR
              have X7 := Lib.hid (fun (W : World) (H : Look w W tb mb rb most g2 EP2 m2 ER2 (some a1) q1 (some a2) q2) => look_ptr H hltR)
              clear hLk
              generalize EP2[i] = e at *
              generalize ER2[i] = f at *
              have hI : I64 e.id := by
                have h1 := HL.out.pi.ids e he
                have h2 := HL.out.pi.gv
                exact ⟨by omega, by omega⟩
              have X3 := Lib.hid (fun (W : World) (H : PI w.heap.size W tb mb most g2 EP2 m2) => at_yes H he hI)
              have X4 := Lib.hid (fun (W : World) (H : PI w.heap.size W tb mb most g2 EP2 m2) => cur_at e.b e.h e.k e.d W (H.cur e he))
              have X5 := Lib.hid (fun (W : World) (H : RI w.heap.size W rb most g2 ER2) => ref_at f.b e.h e.k e.d W (ri_cur H hf ht))
              have X6 := Lib.hid (fun (W : World) (H : PI w.heap.size W tb mb most g2 EP2 m2) => cur_done e.b e.h e.k e.d W (H.cur e he))
              have X8 := Lib.hid (fun (W : World) (H : RI w.heap.size W rb most g2 ER2) => ref_done (ri_cur H hf ht))
              have hdd : (e.d != e.d) = false := by simp
              have hhh : (e.h != e.h) = false := by simp
              have hkk : (e.k != e.k) = false := by simp
              clear ht he hf hI hltR
              go_upto_region 47 with (first
                | (go_at_call 46; refine (X3.out _ HL.out.pi).mono ?_; rintro e5 w5 ⟨rfl, rfl⟩)
                | (go_at_call 37; refine (X4.out _ HL.out.pi).mono ?_; rintro e5 w5 ⟨rfl, hb5⟩; replace HL := Lib.hid (HL.out.below hb5); clear hb5; have z3 : w5.cell? ⟨rb, 3, none⟩ = some (.slice (some a2) EP2.length q2) := HL.out.blk.cell 3; have j1 := X7.out _ HL.out)
                | (go_at_call 38; refine (X5.out _ HL.out.ri).mono ?_; rintro e5 w6 ⟨rfl, hb6⟩; replace HL := Lib.hid (HL.out.below hb6); clear hb6 z3 j1))
              replace HL := Lib.hid (HL.out.below (below_drew _))
              go_region_held3 (fun w' => w'.cell? ⟨rb, 3, none⟩ = some (.slice (some a2) EP2.length q2) ∧ w'.cell? (a2.add i) = some (.pointer (some ⟨f.b, 0, none⟩)) ∧ w'.cell? ⟨f.b, 1, none⟩ = some (.bool e.d)) (exact ⟨HL.out.blk.cell 3, X7.out _ HL.out, X8.out _ HL.out.ri⟩) (first
                | (go_at_call 34; refine (X6.out _ HL.out.pi).mono ?_; rintro e5 w7 ⟨rfl, rfl⟩))
              go_wp2_with fail
              go_roundw
              case rel => exact ⟨i + 1, by omega, rfl, HL.out⟩
              case measure => simp only [RowKit.intOf]; omega
            · obtain rfl : i = EP2.length := by omega
              have hlt1 : ¬ (EP2.length : Int) < EP2.length := by omega
              clear hLk
              go_wp2_with fail
              go_roundw
              case rel => exact ⟨j + 1, EP2, ER2, m2, g2, by omega, by go_num, hm2, HAL.out, HL.out.pi, HL.out.ri, HL.out.old⟩
              case measure => first | (simp only [RowKit.intOf]; omega) | (simp [RowKit.intOf]; omega) | omega
    · obtain rfl : j = n := by omega
      have HO := Lib.hid hO
      clear hO hP hR
      go_wp2
      go_ret
      exact ⟨rfl, HO.out⟩
end Go.Proofs.YtacdbgoffepaaaaDoor
