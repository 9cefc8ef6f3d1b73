/-
  PlainActs's walk.
-/
import Derived.Test.YtfnnfgiflhpefaaDoorMadeW
import Derived.Test.YtfnnfgiflhpefaaDoorAllF
import Derived.Deep.RegionHeld3
namespace Go.Proofs.YtfnnfgiflhpefaaDoor
open Go.RowKit Go.Shelf Go.Lib
attribute [local go_sem] Oper.semAt_some

theorem Rel.sorted {l rl s : List Pr2} (H : Rel l rl) (hs : SA rl rl.length s) : s = l := by
  obtain ⟨_, h2, h3⟩ := hs
  refine sort_ext h2 H.sort fun q => ?_
  rw [h3, List.take_of_length_le (Nat.le_refl _), H.look_]
set_option maxHeartbeats 1000000 in
set_option maxRecDepth 100000 in
theorem samew_c (v u : Value) (B B' : Nat) (l : List Pr2) (w : World) (hb : l.length ≤ 1000) (hv : w.ownsRow B 35 2 v l.length (flat2 l)) (hu : w.ownsRow B' 39 2 u l.length (flat2 l)) :
    Calls Tryd.prog 9 #[v, u] w fun e w' => e = .returned (.bool true) ∧ Below w.heap.size w w' := by
  obtain ⟨p, c, rfl, hn, hnc, _, hR, _⟩ := owns_row (owns0 hv)
  obtain ⟨q, d, rfl, hm, hmd, _, hQ, _⟩ := owns_row (owns0 hu)
  have HR := Lib.hid (And.intro hR hQ)
  have mixed : Tryd.prog.follows .mixedOrders = true := by kernel_rfl
  clear hR hQ hv hu
  go_enter Tryd.func9, Tryd.ntmps9
  go_wp2_with fail
  go_loopw [14] (fun s14 wr => ∃ i : Nat, i ≤ l.length ∧ s14 = .int .i64 i ∧ Below w.heap.size w wr) (fun s14 _ => l.length - (RowKit.intOf s14).toNat)
  case atStart => exact ⟨0, Nat.zero_le _, rfl, Below.refl _ _⟩
  case round =>
    obtain ⟨i, hi, rfl, hb1⟩ := hrel
    by_cases hlt : i < l.length
    · have hlt1 : (i : Int) < l.length := by omega
      obtain ⟨a, rfl, k0, k1⟩ := (HR.out.1.below hb1) i hlt
      obtain ⟨b, rfl, j0, j1⟩ := (HR.out.2.below hb1) i hlt
      obtain ⟨x, hx⟩ : ∃ x, x = l[i] := ⟨_, rfl⟩
      rw [← hx] at k0 k1 j0 j1
      have hw3 : IntKind.i64.wrap ((i : Int) + 1) = (i : Int) + 1 := by rw [IntKind.wrap_i64]; omega
      have hA1 : Below wr.heap.size wr (wr.alloc (.cells #[.int .u64 x.key, .int .u64 x.val] 35)) := (Below.refl _ _).alloc (Nat.le_refl _) _
      have j0' := (hA1.cell (block_lt_of_cell j0)).trans j0
      have j1' := (hA1.cell (p := ⟨(b.add (i * 2)).block, (b.add (i * 2)).off + 1, none⟩) (block_lt_of_cell j1)).trans j1
      have bB := Blk.new wr 35 #[.int .u64 x.key, .int .u64 x.val]
      have m0 := bB.cell 0
      have m1 := bB.cell 1
      have HD := Lib.hid (hb1.trans (hA1.mono hb1.size))
      clear hb1 hA1 hx bB
      go_upto_region 6 with fail
      go_quiet (fail)
      go_wp2_with fail
      go_roundw
      case rel => exact ⟨i + 1, by omega, rfl, below_drewN HD.out _⟩
      case measure => simp only [RowKit.intOf]; omega
    · obtain rfl : i = l.length := by omega
      have hlt1 : ¬ (l.length : Int) < l.length := by omega
      have HD := Lib.hid hb1
      clear hb1
      go_wp2_with fail
      go_ret
      exact ⟨rfl, HD.out⟩
/-- A value in a row of pairs is stored anew. -/
theorem val_store (B : Nat) (W : World) (g m c k : Nat) (l : List Pr2) (v1 : Int) (hO : W.ownsRow B 35 2 (.slice (some ⟨g, 0, none⟩) m c) m (flat2 l)) (hk : k < l.length) :
    W.cell? ⟨g, k * 2 + 1, none⟩ = some (.int .u64 l[k].val) ∧ W.frozen? ⟨g, k * 2 + 1, none⟩ = false ∧
      (∃ l', l'.length = l.length ∧ (W.setCell ⟨g, k * 2 + 1, none⟩ (.int .u64 v1)).ownsRow B 35 2 (.slice (some ⟨g, 0, none⟩) m c) m (flat2 l')) ∧ Chg (fun i => i = g) W (W.setCell ⟨g, k * 2 + 1, none⟩ (.int .u64 v1)) := by
  obtain ⟨p9, c9, e9, _, _, _, hR9, _⟩ := owns_row (owns0 hO)
  injection e9 with e10 _ _
  obtain ⟨a, e11, _, h12⟩ := hR9 k hk
  rw [← e10] at e11
  injection e11 with e11
  subst e11
  obtain ⟨⟨e0, e1⟩ | ⟨g', cap, cur, e0, hB, hg, hc, hcm, hsz, ht⟩⟩ := And.intro hO.2 trivial
  · cases e0
  · injection e0 with e1 e2 e3
    injection e1 with e1
    injection e1 with e1
    subst e1 e3
    have hlen : l.length = m := by have := hO.1; rw [flat2_length] at this; omega
    refine ⟨by simpa [Addr.add_lit] using h12, frozen_of_row W g _ cur _ hg, ⟨l.take k ++ (⟨l[k].key, v1⟩ :: l.drop (k + 1)), ?_, ⟨?_, .inr ⟨g, c, cur.setIfInBounds (k * 2 + 1) (.int .u64 v1), rfl, hB, (show Blk W g 35 cur from hg).set_ (k * 2 + 1) _, hc, hcm, by simpa using hsz, ?_⟩⟩⟩, (Chg.refl (fun i => i = g) W).set_ (b := g) rfl _ _⟩
    · simp; omega
    · rw [flat2_length]; simp; omega
    · have h5 := flat2_val l k hk v1
      rw [← h5, ← ht]
      simp [List.take_set]

theorem pre_next {pre l : List Pr2} {x : Pr2} (h : pre <+: l) (hlt : pre.length < l.length) : (pre ++ [x] <+: l) ↔ l[pre.length] = x := by
  obtain ⟨t, rfl⟩ := h
  cases t with
  | nil => simp at hlt
  | cons y t =>
    rw [List.prefix_append_right_inj]
    simp [List.cons_prefix_cons, eq_comm]
theorem KeepC.chg {X : Nat → Prop} {W W' : World} (h : Chg X W W') : KeepC X W W' := ⟨h.size, fun k _ hk _ hx => (h.block k (Array.getElem?_eq_some_iff.1 hk).1 hx).trans hk⟩
theorem set_other {W : World} {b i : Nat} {v : Value} {a : Addr} {x : Value} (h : W.cell? a = some x) (hn : a.block ≠ b) : (W.setCell ⟨b, i, none⟩ v).cell? a = some x :=
  (World.cell?_of_block (((Chg.refl (fun k => k = b) W).set_ (b := b) rfl i v).block a.block (block_lt_of_cell h) hn)).trans h
theorem keeps_below {W W' : World} (h : Below W.heap.size W W') : KeepsOthers W W' := ⟨h.size, fun k _ hk _ => (h.block k (Array.getElem?_eq_some_iff.1 hk).1).trans hk⟩
/-- A range over an iterator whose body leaves only at what the iterator never hands over. -/
theorem range_ex {α : Type} {g : Operand} {ps : Array Tmp} {assign body : Code} {Q : Exit → Act → World → Prop} {a : Act} {w : World} {gf : Nat} {lb : Array Value} (hg : a.eval g = .func (.func gf) #[] lb)
    (eg : ∀ args w, (callFunc gf args).run Tryd.prog w = .ok (.enter gf args) w) {encs : α → Array Value} {Kp : World → World → Prop} {S Sp : List α → Prop} {N : Nat} (hseq : SeqStopsK Fence.wide 7 Tryd.prog gf lb encs Kp S Sp N w)
    (hKt : ∀ {A B C : World}, Kp A B → Kp B C → Kp A C) (hKb : ∀ (W : World) (l : Nat) (o o' : Obj), w.heap.size ≤ l → W.heap[l]? = some o → o.isCells = false → o.isWalk = false → Kp W (W.putObj l o')) (hps : ∀ x, (encs x).size = ps.size)
    (I : List α → World → Prop) (Bad : List α → Prop) (hBad : ∀ pre, Sp pre → ¬ Bad pre) (hI : OwnFrom w.heap.size I) (h0 : I [] w)
    (hbody : ∃ a₁ : α → Act, (∀ (l : Nat) (x : α) (W : World) (K : Act → World → Prop), K (a₁ x) W →
        assign.wpIn (Fence.wide.inRound l) 6 Tryd.prog (Exit.then K (fun _ _ _ => False)) { tmps := (ps.zip (encs x)).foldl (fun t (p, v) => t.setIfInBounds p v) a.tmps, defers := [] } W) ∧
      ∀ (l : Nat) (pre : List α) (x : α) (W : World), I pre W → pre.length < N → body.wpIn (Fence.wide.inRound l) 6 Tryd.prog (ownPostK Kp I (fun _ pre _ => Bad pre) (pre ++ [x]) W) (a₁ x) W)
    (hdone : ∀ (D : Nat) (xs : List α) (W : World), w.heap.size ≤ D → S xs → I xs W → W.heap[D]? = some (.deferred (some [])) → Q .normal { a with defers := { target := .collected D, args := #[] } :: a.defers } W) :
    (Code.rangeFunc g ps assign body).wp Tryd.prog Q a w := by
  obtain ⟨a₁, h1, h2⟩ := hbody
  refine (wpIn_wide (n := 8)).1 ?_
  exact wpIn_rangeFunc_ownF rfl (by decide) hg trivial eg hseq hKt hKb (Below.refl _ _) hps I (fun _ pre _ => Bad pre) hI (fun _ _ _ _ _ hs _ _ => hs) h0 a₁ h1 h2 hdone (fun _ _ pre _ _ hs hb _ => absurd hb (hBad pre hs))
theorem Act3At.below_ {w w' : World} {p : Option Addr} {acts : List Act3} (H : Act3At w p acts) (hb : Below w.heap.size w w') : Act3At w' p acts := fun i h => by
  obtain ⟨a, e, k0, k1, k2⟩ := H i h
  exact ⟨a, e, (hb.cell (block_lt_of_cell k0)).trans k0, (hb.cell (p := ⟨(a.add (i * 3)).block, (a.add (i * 3)).off + 1, none⟩) (block_lt_of_cell k1)).trans k1, (hb.cell (p := ⟨(a.add (i * 3)).block, (a.add (i * 3)).off + 2, none⟩) (block_lt_of_cell k2)).trans k2⟩
/-- A function, its reference, the result's box and the reference's, all below N. -/
structure PSt (N : Nat) (w W : World) (rb wb f r : Nat) (most : Int) (l rl : List Pr2) : Prop where
  ex : ∃ S T : Nat → Prop, PF W S f most l ∧ RF W T r most rl ∧ (∀ k, S k → k < N) ∧ ∀ k, T k → k < N
  ret : Blk W rb 4 #[.bool false]
  box : Blk W wb 25 #[.pointer (some ⟨r, 0, none⟩)]
  lt : rb < wb ∧ wb < N ∧ w.heap.size ≤ N
  rne : r ≠ rb
  bel : Below w.heap.size w W
section
variable {N rb wb f r : Nat} {w W W' : World} {most : Int} {l rl : List Pr2}
theorem PSt.chg (H : PSt N w W rb wb f r most l rl) {X : Nat → Prop} (h : Chg X W W') (hX : ∀ k, X k → N ≤ k) : PSt N w W' rb wb f r most l rl := by
  obtain ⟨S, T, h1, h2, h3, h4⟩ := H.ex
  have hl := H.lt
  refine ⟨⟨S, T, h1.chg h (fun k hk hx => ?_), h2.chg h (fun k hk hx => ?_), h3, h4⟩, h.blk H.ret fun hx => ?_, h.blk H.box fun hx => ?_, hl, H.rne, H.bel.trans (h.below (fun k hk => ?_) H.bel.size)⟩
  · have := h3 k hk; have := hX k hx; omega
  · have := h4 k hk; have := hX k hx; omega
  · have := hX _ hx; omega
  · have := hX _ hx; omega
  · have := hX _ hk; omega
theorem PSt.below (H : PSt N w W rb wb f r most l rl) (h : Below W.heap.size W W') : PSt N w W' rb wb f r most l rl := H.chg (X := fun _ => False) (Chg.of h) fun _ h => h.elim
theorem PSt.pairs (H : PSt N w W rb wb f r most l rl) : Calls Tryd.prog 8 #[.pointer (some ⟨f, 0, none⟩)] W fun e w' => ∃ v', e = .returned v' ∧ w'.ownsRow 0 35 2 v' l.length (flat2 l) ∧ (∀ k, v'.ownBlock = some k → W.heap.size ≤ k) ∧ Below W.heap.size W w' := by
  obtain ⟨S, T, h1, _⟩ := H.ex
  exact pairs_c S f most l W h1
theorem PSt.sorted (H : PSt N w W rb wb f r most l rl) (R : Rel l rl) : Calls Tryd.prog 10 #[.pointer (some ⟨r, 0, none⟩)] W fun e w' => ∃ v', e = .returned v' ∧ w'.ownsRow W.heap.size 39 2 v' l.length (flat2 l) ∧ Below W.heap.size W w' := by
  obtain ⟨S, T, _, h2, _⟩ := H.ex
  refine (sortedr_c T r most rl W h2 R.nodup).mono ?_
  rintro e w' ⟨v', s, rfl, hs, ho, hb⟩
  obtain rfl := R.sorted hs
  exact ⟨v', rfl, by rw [R.len]; exact ho, hb⟩
theorem PSt.keys (H : PSt N w W rb wb f r most l rl) : ∃ p c, W.cell? ⟨r, 1, none⟩ = some (.slice p rl.length c) := by
  obtain ⟨S, T, _, h2, _⟩ := H.ex
  obtain ⟨vk, vv, g1, g2, _⟩ := h2.ex
  obtain ⟨p, c, rfl, _⟩ := u64_row g2
  exact ⟨p, c, g1.cell 1⟩
theorem PSt.of {w1 w2 : World} (M : MSt w1.heap.size w1 w2 f r most l rl) (hr : Blk w2 rb 4 #[.bool false]) (hrb : rb < w1.heap.size) (hb : Below w.heap.size w w2) :
    PSt (w2.heap.size + 1) w (w2.alloc (.cells #[.pointer (some ⟨r, 0, none⟩)] 25)) rb w2.heap.size f r most l rl := by
  obtain ⟨S, T, h1, h2, _, _, hT⟩ := M.ex
  have hA : Below w2.heap.size w2 (w2.alloc (.cells #[.pointer (some ⟨r, 0, none⟩)] 25)) := (Below.refl _ _).alloc (Nat.le_refl _) _
  have := hr.lt
  exact ⟨⟨S, T, h1.below hA, h2.below hA, fun k hk => by have := h1.lt k hk; omega, fun k hk => by have := h2.lt k hk; omega⟩, hr.below hA, Blk.new _ _ _, ⟨by omega, by omega, by have := hb.size; omega⟩, by have := hT r h2.own; omega, hb.trans (hA.mono hb.size)⟩
end
set_option maxHeartbeats 4000000 in
set_option maxRecDepth 100000 in
theorem pacts_c (ea : Nat → Addr) (most : Int) (p : Option Addr) (n c : Nat) (acts : List Act3) (w : World) (hE : ErrsAt w ea) (_ : -9223372036854775808 ≤ most ∧ most ≤ 9223372036854775807) (hn : acts.length = n) (hA : Act3At w p acts) (_ : ∀ y ∈ acts, y.ok) :
    Calls Tryd.prog 3 #[.int .i64 most, .slice p n c] w fun e w' => e = .returned (.bool true) ∧ Below w.heap.size w w' := by
  have HE := Lib.hid (And.intro hE (And.intro hn hA))
  clear hE hn hA
  refine (callsIn_wide (n := 8)).1 ?_
  refine callsIn_of_wp_marks Tryd.func3 rfl trivial ?_ rfl
  refine wpIn_wide.2 ?_
  simp only [Tryd.ntmps3, List.size_toArray, List.length_cons, List.length_nil, Nat.reduceAdd, Nat.reduceSub, Array.replicate_succ, Array.replicate_zero, List.push_toArray, List.append_toArray, List.nil_append, List.cons_append]
  go_wp2_with fail
  have bA : Below w.heap.size w (w.alloc (.cells #[.bool false] 4)) := (Below.refl _ _).alloc (Nat.le_refl _) _
  refine (alive_c ea _ (HE.out.1.below bA (by omega))).mono ?_
  rintro e w1 ⟨rfl, b1⟩
  have bW : Below w.heap.size w w1 := bA.trans (b1.mono bA.size)
  have hF : Blk w1 w.heap.size 4 #[.bool false] := (Blk.new w 4 #[.bool false]).below b1
  have HB1 := Lib.hid (And.intro bW (And.intro hF (Nat.le_refl w.heap.size)))
  clear b1 bA bW
  by_cases hbig : n ≤ 100
  case neg =>
    have hbig1 : (100 : Int) < n := by omega
    have hfr := hF.free 0
    have hfc := hF.cell 0
    have hfs := (hF.set_ 0 (.bool true)).cell 0
    clear hF
    go_wp2_with fail
    refine ⟨.bool true, ?_, rfl, HB1.out.1.setCell (p := ⟨w.heap.size, 0, none⟩) HB1.out.2.2 _⟩
    simp [results, Tryd.f3, go_sem, hfs]
  have hbig1 : ¬ (100 : Int) < n := by omega
  clear hF
  go_wp2_with fail
  refine (made_c ea most p n c acts w1 (HE.out.1.below HB1.out.1 (by omega)) HE.out.2.1 (HE.out.2.2.below_ HB1.out.1) hbig).mono ?_
  rintro e w2 ⟨f, r, rfl, l, rl, M, R, hln⟩
  have hF := HB1.out.2.1.below M.bel
  have hP := PSt.of M hF HB1.out.2.1.lt (HB1.out.1.trans (M.bel.mono HB1.out.1.size))
  have HR := Lib.hid (And.intro R hln)
  have HP := Lib.hid hP
  clear M R hF hP HB1
  go_wp2_with fail
  generalize w2.alloc (.cells #[.pointer (some ⟨r, 0, none⟩)] 25) = w3 at HP ⊢
  generalize w2.heap.size = wb at HP ⊢
  refine HP.out.pairs.mono ?_
  rintro e w4 ⟨v4, rfl, o4, k4, b4⟩
  obtain ⟨p4, c4, rfl, _⟩ := owns_row (owns0 o4)
  have hwb := HP.out.box.lt
  have hN4 : ∀ k, (Value.slice p4 l.length c4).ownBlock = some k → wb + 1 ≤ k := fun k hk => by have := k4 k hk; omega
  replace HP := Lib.hid (HP.out.below b4)
  have HO := Lib.hid (And.intro o4 hN4)
  clear o4 k4 b4 hN4 hwb
  have hbx := HP.out.box.cell 0
  go_wp2_with fail
  refine (HP.out.sorted HR.out.1).mono ?_
  rintro e w5 ⟨v5, rfl, o5, b5⟩
  obtain ⟨p5, c5, rfl, _⟩ := owns_row (owns0 o5)
  replace HP := Lib.hid (HP.out.below b5)
  replace HO := Lib.hid (And.intro (owns_chg (S := fun _ => False) (Chg.of b5) HO.out.1 fun _ _ h => h) HO.out.2)
  have H5 := Lib.hid o5
  clear o5 b5 hbx
  go_wp2_with fail
  refine (samew_c _ _ _ _ l w5 (Nat.le_trans HR.out.2 (Nat.le_trans hbig (by decide))) HO.out.1 H5.out).mono ?_
  rintro e w6 ⟨rfl, b6⟩
  replace HP := Lib.hid (HP.out.below b6)
  replace HO := Lib.hid (And.intro (owns_chg (S := fun _ => False) (Chg.of b6) HO.out.1 fun _ _ h => h) HO.out.2)
  clear b6 H5
  go_wp2_with fail
  go_loopw [37] (fun s37 wr => ∃ (i : Nat) (l' : List Pr2), i ≤ l.length ∧ s37 = .int .i64 i ∧ l'.length = l.length ∧ wr.ownsRow 0 35 2 (.slice p4 l.length c4) l.length (flat2 l') ∧ Chg (fun k => (Value.slice p4 l.length c4).ownBlock = some k) w6 wr) (fun s37 _ => l.length - (RowKit.intOf s37).toNat)
  case atStart => exact ⟨0, l, Nat.zero_le _, rfl, rfl, HO.out.1, Chg.refl _ _⟩
  case round =>
    obtain ⟨i, l', hi, rfl, hl', hO, hC⟩ := hrel
    by_cases hlt : i < l.length
    · have hlt1 : (i : Int) < l.length := by omega
      have hw3 : IntKind.i64.wrap ((i : Int) + 1) = (i : Int) + 1 := by rw [IntKind.wrap_i64]; omega
      obtain ⟨⟨e0, e1⟩ | ⟨g, cap, cur, e0, _⟩⟩ := And.intro hO.2 trivial
      · omega
      injection e0 with e1 e2 e3
      subst e1 e3
      obtain ⟨v1, hv1⟩ : ∃ v1, v1 = IntKind.u64.wrap ((l'[i]'(by omega)).val + 1) := ⟨_, rfl⟩
      obtain ⟨k1, kf, ⟨l2, hl2, hO2⟩, hC2⟩ := val_store 0 wr g l.length c4 i l' v1 hO (by omega)
      have HX := Lib.hid (And.intro hO2 (And.intro hC2 (And.intro hC (And.intro hl' hl2))))
      generalize l'[i]'(by omega) = x at k1 hv1
      rw [hv1] at HX
      clear hO2 hC2 hC hl2 hO hv1
      go_wp2_with fail
      go_roundw
      case rel =>
        obtain ⟨hO2, hC2, hC, hl', hl2⟩ := HX.out
        exact ⟨i + 1, l2, by omega, rfl, by rw [hl2, hl'], hO2, hC.trans (hC2.mono fun k _ hk => by rw [hk]; rfl) fun k hk => .inl hk⟩
      case measure => simp only [RowKit.intOf]; omega
    · obtain rfl : i = l.length := by omega
      have hlt1 : ¬ (l.length : Int) < l.length := by omega
      replace HP := Lib.hid (HP.out.chg hC HO.out.2)
      clear hC hO HO
      go_wp2_with fail
      have hwb := HP.out.box.lt
      have HN := Lib.hid (And.intro (HP.out.below ((Below.refl _ _).alloc (Nat.le_refl _) (.cells #[.int .i64 0] 3))) (And.intro (Blk.new wr 3 #[.int .i64 0]) (Nat.succ_le_of_lt hwb)))
      clear hwb HP
      generalize wr.alloc (.cells #[.int .i64 0] 3) = wN at HN ⊢
      generalize wr.heap.size = nb at HN ⊢
      refine (all_c f wN).mono ?_
      rintro e w' ⟨rfl, rfl⟩
      have hAl : Below wN.heap.size wN (wN.alloc (.cells #[.pointer (some ⟨f, 0, none⟩)] 24)) := (Below.refl _ _).alloc (Nat.le_refl _) _
      have HA := Lib.hid (And.intro (HN.out.1.below hAl) (And.intro (HN.out.2.1.below hAl) (And.intro HN.out.2.2 (And.intro (Blk.new wN 24 #[.pointer (some ⟨f, 0, none⟩)]) HN.out.2.1.lt))))
      clear hAl
      go_wp2_with fail
      generalize wN.alloc (.cells #[.pointer (some ⟨f, 0, none⟩)] 24) = w8 at HA ⊢
      obtain ⟨S, T, hPF, _⟩ := HA.out.1.ex
      have hn8 := HA.out.2.1.lt
      refine range_ex (gf := 26) (lb := #[.pointer (some ⟨wN.heap.size, 0, none⟩)]) rfl (enters_of Tryd.func26 (by kernel_rfl) rfl)
        (all_stops 7 wN.heap.size (fun k => k = nb) S f most l w8 (by decide) (HA.out.2.2.2.1.cell 0) hPF (fun k hk => hk ▸ hn8)) (fun h k => h.trans k) (fun W l o o' _ h hc _ => keepC_b W l o o' h hc) (fun _ => rfl)
        (fun pre W => PSt (wb + 1) w W w.heap.size wb f r most l rl ∧ Blk W nb 3 #[.int .i64 (pre.length : Int)] ∧ pre <+: l) (fun pre => ¬ pre <+: l) (fun _ h c => c h) ?own ?start ?body ?done
      case own =>
        intro pre W W' row hs hg hr
        have hX : ∀ k, row = some k → wb + 1 ≤ k := fun k e => by have := (hr k e).1; have := HA.out.2.2.1; omega
        have hC : Chg (fun k => row = some k) W W' := ⟨hg.os, hg.tape, hg.output, hg.size, fun k hk hn => hg.block k hk fun c => hn c.symm⟩
        exact ⟨hs.1.chg hC hX, hC.blk hs.2.1 fun c => by have := (hr nb c).1; omega, hs.2.2⟩
      case start => exact ⟨HA.out.1, HA.out.2.1, List.nil_prefix⟩
      case body =>
        apply Exists.intro
        refine ⟨fun l x W K hK => ?_, fun lp pre x W hI hlen => ?_⟩
        · gi_wp2
          exact hK
        · obtain ⟨hP, hNb, hpre⟩ := hI
          have hlt1 : (pre.length : Int) < l.length := by omega
          have hwn : IntKind.i64.wrap ((pre.length : Int) + 1) = (pre.length : Int) + 1 := by rw [IntKind.wrap_i64]; have := HR.out.2; omega
          have hnx := @pre_next pre l x hpre hlen
          obtain ⟨y, hy⟩ : ∃ y, l[pre.length] = y := ⟨_, rfl⟩
          rw [hy] at hnx
          have hbx := hP.box.cell 0
          have HX := Lib.hid (And.intro hP (And.intro hNb hnx))
          have hnb := HA.out.2.2.1
          clear hpre hnx hP hNb
          by_cases hk : x.key = y.key
          · have hkb : (x.key != y.key) = false := by simp [hk]
            by_cases hv : x.val = y.val
            · have hvb : (x.val != y.val) = false := by simp [hv]
              have hxy : y = x := by cases x; cases y; simp only at hk hv; rw [hk, hv]
              gi_wp2_with (refine ⟨trivial, ?_⟩; gi_at_call 10; refine (CallsIn.inRound lp (callsIn_wide.2 (HX.out.1.sorted HR.out.1))).mono ?_; rintro e w5 ⟨v5, rfl, o5, b5⟩; obtain ⟨p6, c6, rfl, _, _, _, hR6, _⟩ := owns_row (owns0 o5); obtain ⟨a6, rfl, k0, k1⟩ := hR6 pre.length hlen; rw [hy] at k0 k1; have n0 := (HX.out.2.1.below b5).cell 0; have nf := (HX.out.2.1.below b5).free 0; have rc := (HX.out.1.below b5).ret.cell 0; have rf := (HX.out.1.below b5).ret.free 0; have HB5 := Lib.hid b5; clear b5 o5 hR6 hbx)
              exact ⟨(keeps_below HB5.out).trans (KeepsOthers.setCell _ _ _), (KeepC.below HB5.out).trans (KeepC.chg ((Chg.refl (fun k => k = nb) _).set_ (b := nb) rfl _ _)), (HX.out.1.below HB5.out).chg ((Chg.refl (fun k => k = nb) _).set_ (b := nb) rfl _ _) (fun k hk => hk ▸ hnb), by rw [List.length_append]; exact (HX.out.2.1.below HB5.out).set_ 0 _, HX.out.2.2.2 hxy⟩
            · have hvb : (x.val != y.val) = true := by simpa using hv
              gi_wp2_with (refine ⟨trivial, ?_⟩; gi_at_call 10; refine (CallsIn.inRound lp (callsIn_wide.2 (HX.out.1.sorted HR.out.1))).mono ?_; rintro e w5 ⟨v5, rfl, o5, b5⟩; obtain ⟨p6, c6, rfl, _, _, _, hR6, _⟩ := owns_row (owns0 o5); obtain ⟨a6, rfl, k0, k1⟩ := hR6 pre.length hlen; rw [hy] at k0 k1; have n0 := (HX.out.2.1.below b5).cell 0; have nf := (HX.out.2.1.below b5).free 0; have rc := (HX.out.1.below b5).ret.cell 0; have rf := (HX.out.1.below b5).ret.free 0; have HB5 := Lib.hid b5; clear b5 o5 hR6 hbx)
              exact ⟨(keeps_below HB5.out).trans (KeepsOthers.setCell _ _ _), fun c => hv (by rw [HX.out.2.2.1 c])⟩
          · have hkb : (x.key != y.key) = true := by simpa using hk
            gi_wp2_with (refine ⟨trivial, ?_⟩; gi_at_call 10; refine (CallsIn.inRound lp (callsIn_wide.2 (HX.out.1.sorted HR.out.1))).mono ?_; rintro e w5 ⟨v5, rfl, o5, b5⟩; obtain ⟨p6, c6, rfl, _, _, _, hR6, _⟩ := owns_row (owns0 o5); obtain ⟨a6, rfl, k0, k1⟩ := hR6 pre.length hlen; rw [hy] at k0 k1; have n0 := (HX.out.2.1.below b5).cell 0; have nf := (HX.out.2.1.below b5).free 0; have rc := (HX.out.1.below b5).ret.cell 0; have rf := (HX.out.1.below b5).ret.free 0; have HB5 := Lib.hid b5; clear b5 o5 hR6 hbx)
            exact ⟨(keeps_below HB5.out).trans (KeepsOthers.setCell _ _ _), fun c => hk (by rw [HX.out.2.2.1 c])⟩
      case done =>
        intro D ys W hD hys hI hK
        have hI : PSt (wb + 1) w W w.heap.size wb f r most l rl ∧ Blk W nb 3 #[.int .i64 (l.length : Int)] ∧ ys <+: l := by rw [hys] at hI; rw [hys]; exact hI
        clear hys
        obtain ⟨hP, hNb, _⟩ := hI
        dsimp only
        go_upto_region 24 with fail
        obtain ⟨pk, ck, hkeys⟩ := hP.keys
        rw [← HR.out.1.len] at hkeys
        have HS := Lib.hid (And.intro (hNb.cell 0) (And.intro (hP.box.cell 0) hkeys))
        have HP := Lib.hid (hP.below (below_drew W))
        have HL := Lib.hid (below_drew W)
        have HD := Lib.hid (And.intro hK hD)
        clear hP hNb hkeys hK hD
        go_region_held3 (fun w' => w'.cell? ⟨nb, 0, none⟩ = some (.int .i64 (l.length : Int)) ∧ w'.cell? ⟨wb, 0, none⟩ = some (.pointer (some ⟨r, 0, none⟩)) ∧ w'.cell? ⟨r, 1, none⟩ = some (.slice pk l.length ck)) (first | exact ⟨(HL.out.cell (block_lt_of_cell HS.out.1)).trans HS.out.1, (HL.out.cell (block_lt_of_cell HS.out.2.1)).trans HS.out.2.1, (HL.out.cell (block_lt_of_cell HS.out.2.2)).trans HS.out.2.2⟩ | exact ⟨set_other ((HL.out.cell (block_lt_of_cell HS.out.1)).trans HS.out.1) (by have := HP.out.lt; have := HA.out.2.2.1; simp only; omega), set_other ((HL.out.cell (block_lt_of_cell HS.out.2.1)).trans HS.out.2.1) (by have := HP.out.lt; simp only; omega), set_other ((HL.out.cell (block_lt_of_cell HS.out.2.2)).trans HS.out.2.2) HP.out.rne⟩) (first
          | (go_at_call 8; refine HP.out.pairs.mono ?_; rintro e w5 ⟨v5, rfl, o5, _, b5⟩; obtain ⟨q5, c5, rfl, _⟩ := owns_row (owns0 o5); replace HP := Lib.hid (HP.out.below b5); replace HL := Lib.hid (HL.out.trans (b5.mono HL.out.size)); have HO5 := Lib.hid o5; clear o5 b5)
          | (go_at_call 10; refine (HP.out.sorted HR.out.1).mono ?_; rintro e w6 ⟨v6, rfl, o6, b6⟩; obtain ⟨q6, c6, rfl, _⟩ := owns_row (owns0 o6); replace HP := Lib.hid (HP.out.below b6); replace HL := Lib.hid (HL.out.trans (b6.mono HL.out.size)); replace HO5 := Lib.hid (owns_chg (S := fun _ => False) (Chg.of b6) HO5.out fun _ _ h => h); have HO6 := Lib.hid o6; clear o6 b6)
          | (go_at_call 9; refine (samew_c _ _ _ _ l _ (Nat.le_trans HR.out.2 (Nat.le_trans hbig (by decide))) HO5.out HO6.out).mono ?_; rintro e w7 ⟨rfl, b7⟩; replace HP := Lib.hid (HP.out.below b7); replace HL := Lib.hid (HL.out.trans (b7.mono HL.out.size)); have rc := HP.out.ret.cell 0; have rf := HP.out.ret.free 0; clear b7 HO5 HO6))
        have hret := HP.out.ret
        have hKx := (KeepsOthers.setCell _ ⟨w.heap.size, 0, none⟩ (.bool true)).same D _ ((HL.out.block D (Array.getElem?_eq_some_iff.1 HD.out.1).1).trans HD.out.1) rfl
        have hc5 := cell_kept ((hret.set_ 0 (.bool true)).cell 0) (grownBy_putObj' _ D (.deferred none)) (fun r e => by cases e; exact ⟨_, hKx, rfl⟩)
        have HZ := Lib.hid (And.intro hKx hc5)
        clear hKx hc5 hret
        go_wp2_with fail
        refine ⟨by simp, .inl ⟨_, _, rfl, run_takeDeferred HZ.out.1, ?_⟩⟩
        refine ⟨.bool true, ?_, rfl, (HP.out.bel.setCell (p := ⟨w.heap.size, 0, none⟩) (Nat.le_refl _) _).trans (belowK_b (w := w) (Nat.le_refl _) _ D _ _ ?_ HZ.out.1 rfl rfl)⟩
        · have hz := HZ.out.2
          simp [results, Tryd.f3, go_sem, hz]
        · exact Nat.le_trans HA.out.1.bel.size HD.out.2
end Go.Proofs.YtfnnfgiflhpefaaDoor
