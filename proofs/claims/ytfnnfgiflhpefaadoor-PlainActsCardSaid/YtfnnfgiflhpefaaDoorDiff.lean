/-
  plain.Diff, by contract.
-/
import Derived.Test.YtfnnfgiflhpefaaDoorSame
import Derived.Deep.QuietTactic
import Derived.BigQuiet
namespace Go.Proofs.YtfnnfgiflhpefaaDoor
open Go.RowKit Go.Lib

def diffP : List Pr2 → List Pr2 → List Int
  | [], [] => []
  | x :: l, [] => x.key :: diffP l []
  | [], y :: k => y.key :: diffP [] k
  | x :: l, y :: k => if x.key < y.key then x.key :: diffP l (y :: k) else if y.key < x.key then y.key :: diffP (x :: l) k else if x.val ≠ y.val then x.key :: diffP l k else diffP l k
termination_by l k => l.length + k.length
def ints (l : List Int) : List Value := l.map fun x => .int .u64 x
theorem ints_length (l : List Int) : (ints l).length = l.length := by simp [ints]
theorem info_u64 : ∃ i, Tryd.prog.info? 33 = some i ∧ i.zero = some (.int .u64 0) ∧ i.size = 1 ∧ i.bytes = 8 := by
  have h : (Tryd.prog.info? 33).map (fun i => (i.zero, i.size, i.bytes)) = some (some (.int .u64 0), 1, 8) := by kernel_rfl
  obtain ⟨i, hi, h2⟩ := Option.map_eq_some_iff.1 h
  injection h2 with h3 h4
  injection h4 with h5 h6
  exact ⟨i, hi, h3, h5, h6⟩
/-- One number appended to a row of numbers. -/
theorem app_one (w : World) (base n : Nat) (v : Value) (xs : List Int) (x : Int) (b : Nat) (tb : TypeId) (ty : TypeId) (hn : n ≤ 3000) (hx : xs.length = n) (hbase : base ≤ w.heap.size) (hown : w.ownsRow base 33 1 v n (ints xs)) (hb : Blk w b tb #[.int .u64 x]) :
    ∃ v' w', (Builtin.append_ #[40, 40] ty #[v, .slice (some ⟨b, 0, none⟩) 1 1]).run Tryd.prog w = .ok v' w' ∧ w'.ownsRow base 33 1 v' (n + 1) (ints (xs ++ [x])) ∧ w.grownBy w' v.ownBlock := by
  obtain ⟨i0, hi0, hz0, hzs, hzb⟩ := info_u64
  obtain ⟨v', w', h1, h2, h3, _, h4⟩ := run_append_own_at (P := Tryd.prog) w base 40 ty 33 i0 _ 1 8 Tryd.underlying40 hi0 hz0 hzs hzb rfl (by omega) _ n (ints xs) hown ⟨b, 0, none⟩ 1 1 [.int .u64 x] rfl (fun j u hj => by
      rw [Addr.add_lit, Nat.zero_add, hb.cell]
      match j, hj with
      | 0, hj => exact hj
      | j + 1, hj => simp at hj) (fun u hu => by simp at hu; subst hu; rfl) (by unfold maxLen; omega) (by omega) hbase
  refine ⟨v', w', h1, ?_, h3⟩
  rw [ints, List.map_append]
  exact h2
theorem u64_row {w : World} {base n : Nat} {v : Value} {xs : List Int} (h : w.ownsRow base 33 1 v n (ints xs)) : ∃ p c, v = .slice p n c ∧ xs.length = n ∧ n ≤ c ∧ (∀ k, v.ownBlock = some k → base ≤ k) ∧ ∀ i (hi : i < xs.length), ∃ a, p = some a ∧ w.cell? (a.add (i * 1)) = some (.int .u64 xs[i]) := by
  have hl : xs.length = n := by have := h.1; rw [ints_length] at this; omega
  rcases h.2 with ⟨rfl, rfl⟩ | ⟨g, cap, cur, rfl, hb, hg, hc, _, hs, ht⟩
  · exact ⟨none, 0, rfl, hl, Nat.le_refl _, fun k hk => (nomatch hk), fun i hi => absurd hi (by omega)⟩
  · refine ⟨some ⟨g, 0, none⟩, cap, rfl, hl, hc, fun k hk => by injection hk with hk; exact hk ▸ hb, fun i hi => ⟨⟨g, 0, none⟩, rfl, ?_⟩⟩
    rw [Addr.add_lit, Nat.zero_add, cell_of_row w g _ cur _ _ hg, ← Array.getElem?_toList]
    have hj : (ints xs)[i * 1]? = some (.int .u64 xs[i]) := by simp [ints]
    rw [← ht, List.getElem?_take] at hj
    split at hj
    · exact hj
    · cases hj
/-- The tail of a row of pairs. -/
theorem RowAt.tail {w : World} {a : Addr} {c : Nat} {x : Pr2} {l : List Pr2} (h : RowAt w (some a) (x :: l)) (hc : l.length + 1 ≤ c) : RowAt w (if c = 1 then some a else some ⟨a.block, a.off + 2, none⟩) l := by
  intro i hi
  have hne : ¬ c = 1 := by omega
  obtain ⟨a', ha, h0, h1⟩ := h (i + 1) (by simp; omega)
  injection ha with ha
  subst ha
  rw [if_neg hne]
  have e : (a.add ((i + 1) * 2)) = (a.add 2).add (i * 2) := by
    rw [show (i + 1) * 2 = 2 + i * 2 by omega, ← Addr.add_add]
  simp only [List.getElem_cons_succ] at h0 h1
  rw [e] at h0 h1
  exact ⟨a.add 2, rfl, h0, h1⟩
theorem owns_old {w w' : World} {base z n : Nat} {e : TypeId} {v : Value} {xs : List Value} (h : Below w.heap.size w w') (hw : w.ownsRow base e z v n xs) : w'.ownsRow base e z v n xs := by
  refine ⟨hw.1, ?_⟩
  rcases hw.2 with c | ⟨g, cap, cur, rfl, hb, hg, rest⟩
  · exact .inl c
  · exact .inr ⟨g, cap, cur, rfl, hb, (h.block g (lt_of_block hg)).trans hg, rest⟩
theorem RowAt.head {w : World} {p : Option Addr} {x : Pr2} {l : List Pr2} (h : RowAt w p (x :: l)) : ∃ a, p = some a ∧ w.cell? a = some (.int .u64 x.key) ∧ w.cell? ⟨a.block, a.off + 1, none⟩ = some (.int .u64 x.val) := by
  obtain ⟨a, ha, h0, h1⟩ := h 0 (by simp)
  rw [Nat.zero_mul, Addr.add_zero'] at h0 h1
  exact ⟨a, ha, h0, h1⟩

/-- What one number behind the others leaves: in any world that only holds more blocks than 'w', one block the new number's. -/
theorem app_next (B : Nat) (w w2 : World) (wb : Nat) (v : Value) (dn : List Int) (x : Int) (hB : B = w.heap.size) (hbr : Below B w w2) (hO : w2.ownsRow B 33 1 v dn.length (ints dn)) (hd : dn.length ≤ 3000) (hb : Blk w2 wb 33 #[.int .u64 x]) :
    ∀ ty, ∃ v' w', (Builtin.append_ #[40, 40] ty #[v, .slice (some ⟨wb, 0, none⟩) 1 1]).run Tryd.prog w2 = .ok v' w' ∧ w'.ownsRow B 33 1 v' (dn ++ [x]).length (ints (dn ++ [x])) ∧ Below B w w' := by
  intro ty
  have hs := hbr.size
  obtain ⟨v', w', h1, h2, h3⟩ := app_one w2 B dn.length v dn x wb 33 ty hd rfl (by omega) hO hb
  refine ⟨v', w', h1, by rw [List.length_append]; exact h2, ?_⟩
  refine ⟨h3.os.trans hbr.os, h3.tape.trans hbr.tape, h3.output.trans hbr.output, by have := h3.size; omega, fun k hk => ?_⟩
  refine (h3.block k (by omega) fun e => ?_).trans (hbr.block k hk)
  obtain ⟨p, c, rfl, _, _, h5, _⟩ := u64_row hO
  have := h5 k e.symm
  omega
/-- The same, the number laid just before. -/
theorem app_nextA (B : Nat) (w wr : World) (v : Value) (dn : List Int) (x : Int) (hB : B = w.heap.size) (hbr : Below B w wr) (hO : wr.ownsRow B 33 1 v dn.length (ints dn)) (hd : dn.length ≤ 3000) :
    ∀ ty, ∃ v' w', (Builtin.append_ #[40, 40] ty #[v, .slice (some ⟨wr.heap.size, 0, none⟩) 1 1]).run Tryd.prog (wr.alloc (.cells #[.int .u64 x] 33)) = .ok v' w' ∧ w'.ownsRow B 33 1 v' (dn ++ [x]).length (ints (dn ++ [x])) ∧ Below B w w' :=
  app_next B w _ wr.heap.size v dn x hB (hbr.alloc (by have := hbr.size; omega) _) (owns_old ((Below.refl _ _).alloc (Nat.le_refl _) _) hO) hd (Blk.new _ _ _)
/-- The same, a draw behind it. -/
theorem app_nextD (B : Nat) (w wr : World) (v : Value) (dn : List Int) (x : Int) (hB : B = w.heap.size) (hbr : Below B w wr) (hO : wr.ownsRow B 33 1 v dn.length (ints dn)) (hd : dn.length ≤ 3000) :
    ∀ ty, ∃ v' w', (Builtin.append_ #[40, 40] ty #[v, .slice (some ⟨wr.heap.size, 0, none⟩) 1 1]).run Tryd.prog (wr.alloc (.cells #[.int .u64 x] 33)).drew = .ok v' w' ∧ w'.ownsRow B 33 1 v' (dn ++ [x]).length (ints (dn ++ [x])) ∧ Below B w w' :=
  app_nextA B w wr.drew v dn x hB hbr.drew hO hd
theorem then_normal {K : Act → World → Prop} {Q : Exit → Act → World → Prop} {a : Act} {w : World} (h : K a w) : Exit.then K Q Exit.normal a w := h
def sliceLen : Value → Nat | .slice _ n _ => n | _ => 0
/-- Where the walk of Diff stands. -/
def DAt (w : World) (B : Nat) (L : List Int) (s0 s1 s5 : Value) (wr : World) : Prop :=
  ∃ (p' q' : Option Addr) (c' d' : Nat) (l' k' : List Pr2) (dn : List Int), s0 = .slice p' l'.length c' ∧ s1 = .slice q' k'.length d' ∧ l'.length ≤ c' ∧ k'.length ≤ d' ∧ l'.length + k'.length + dn.length ≤ 2000 ∧
    RowAt w p' l' ∧ RowAt w q' k' ∧ wr.ownsRow B 33 1 s5 dn.length (ints dn) ∧ dn ++ diffP l' k' = L ∧ Below B w wr

set_option maxHeartbeats 4000000 in
set_option maxRecDepth 100000 in
theorem pdiff_c (v u : Value) (n m : Nat) (l k : List Pr2) (w : World) (hb : n ≤ 1000) (hb2 : m ≤ 1000) (hv : w.ownsRow 0 35 2 v n (flat2 l)) (hu : w.ownsRow 0 35 2 u m (flat2 k)) :
    Calls Tryd.prog 15 #[v, u] w fun e w' => ∃ v', e = .returned v' ∧ w'.ownsRow w.heap.size 33 1 v' (diffP l k).length (ints (diffP l k)) ∧ Below w.heap.size w w' := by
  obtain ⟨p, c, rfl, hn, hnc, _, hR, _⟩ := owns_row hv
  obtain ⟨q, d, rfl, hm, hmd, _, hQ, _⟩ := owns_row hu
  have HR := Lib.hid (And.intro hR hQ)
  have HN := Lib.hid (And.intro (And.intro hn hm) (And.intro hnc hmd))
  clear hR hQ hv hu hn hm hnc hmd
  have mixed : Tryd.prog.follows .mixedOrders = true := by kernel_rfl
  go_enter Tryd.func15, Tryd.ntmps15
  go_wp2_with fail
  go_loopw [0, 1, 5] (fun s0 s1 s5 wr => DAt w w.heap.size (diffP l k) s0 s1 s5 wr) (fun s0 s1 _ _ => sliceLen s0 + sliceLen s1)
  case atStart => exact ⟨p, q, c, d, l, k, [], by rw [HN.out.1.1], by rw [HN.out.1.2], by have := HN.out; omega, by have := HN.out; omega, by have := HN.out; simp; omega, HR.out.1, HR.out.2, World.ownsRow_nil _ _ _ _, rfl, Below.refl _ _⟩
  case round =>
    obtain ⟨p', q', c', d', l', k', dn, rfl, rfl, hc, hd, hbd, hP, hQ, hO, hdf, hbr⟩ := hrel
    have HS := Lib.hid (And.intro hP (And.intro hQ (And.intro hO (And.intro hdf hbr))))
    clear hdf
    cases l' with
    | nil =>
      cases k' with
      | nil =>
        obtain ⟨pv, cv, rfl, _⟩ := u64_row hO
        clear hP hQ hO hbr
        go_wp2_with fail
        go_ret
        obtain ⟨hP, hQ, hO, hdf, hbr⟩ := HS.out
        have e : diffP l k = dn := by rw [← hdf]; simp [diffP]
        rw [e]
        exact ⟨_, rfl, hO, hbr⟩
      | cons y k' =>
        obtain ⟨b, rfl, g0, g9⟩ := (hQ.below hbr).head
        have hs0 := hbr.size
        obtain ⟨pv, cv, rfl, _⟩ := u64_row hO
        clear hP hQ hO
        simp only [List.length_cons, List.length_nil] at hc hd hbd ⊢
        clear g9
        obtain ⟨M, hM⟩ : ∃ M : Nat, M = k'.length + 1 := ⟨_, rfl⟩
        rw [← hM] at hd hbd ⊢
        have M0 : (0 : Int) < M := by omega
        have M1 : (1 : Int) ≤ M := by omega
        have M2 : ((M : Int) == 0) = false := by rw [beq_eq_false_iff_ne]; omega
        have M3 : ¬ (M = 0) := by omega
        have M4 : 0 < M := by omega
        have M5 : 1 ≤ M := by omega
        have M7 : 1 ≤ d' := by omega
        have HM := Lib.hid hM
        clear hM
        obtain ⟨yk, hyk⟩ : ∃ yk, yk = y.key := ⟨_, rfl⟩
        rw [← hyk] at g0
        have HY := Lib.hid hyk
        clear hyk
        clear hbr
        go_upto_region 6 with fail
        go_quiet (fail)
        go_upto_region 8 with fail
        go_quiet (fail)
        go_upto_region 9 with fail
        rename_i n1
        obtain ⟨w2, hw2⟩ : ∃ w2, w2 = (wr.drewN n1).drewN nq := ⟨_, rfl⟩
        rw [← hw2]
        have hB2 : Below w.heap.size w w2 := by rw [hw2]; exact below_drewN (below_drewN (HS.out.2.2.2.2) _) _
        have hO2 : w2.ownsRow w.heap.size 33 1 (.slice pv dn.length cv) dn.length (ints dn) := by rw [hw2]; exact HS.out.2.2.1
        have g02 : w2.cell? b = some (.int .u64 yk) := by rw [hw2]; exact g0
        clear g0 hw2
        obtain ⟨v', w', g1, g2, g3⟩ := app_nextD w.heap.size w w2 (.slice pv dn.length cv) dn yk rfl hB2 hO2 (by omega) 40
        obtain ⟨pw, cw, rfl, _⟩ := u64_row g2
        have HG := Lib.hid (And.intro g2 g3)
        clear g2 g3 hO2 hB2
        go_region_law_o (refine step_append_runI rfl (.tmp 78) (.tmp 83) _ _ rfl (.slice pv dn.length cv) (.slice (some ⟨w2.heap.size, 0, none⟩) 1 1) (by simp [Act.eval]) (by simp [Act.eval]) g1 ?_)
        obtain ⟨V, hV⟩ : ∃ V, V = Value.slice (if d' = 1 then some b else some { block := b.block, off := b.off + 2 }) (M - 1) (d' - 1) := ⟨_, rfl⟩
        rw [← hV]
        have HV := Lib.hid hV
        clear hV
        simp only [List.getElem_toArray, List.getElem_cons_succ, List.getElem_cons_zero, Act.put]
        simp only [List.setIfInBounds_toArray, List.set_cons_succ, List.set_cons_zero]
        simp only [Exit.inBlock]
        go_big_open
        refine then_normal ?_
        go_roundw
        case rel =>
          obtain ⟨hP, hQ, hO, hdf, hbr⟩ := HS.out
          refine ⟨p', (if d' = 1 then some b else some ⟨b.block, b.off + 2, none⟩), c', d' - 1, [], k', dn ++ [yk], rfl, by rw [HV.out, HM.out]; rfl, by simp, by have := HM.out; omega, by have := HM.out; simp; omega, hP, (hQ.tail (by have := HM.out; omega)), by have h := HG.out.1; rw [List.length_append] at h ⊢; exact h, ?_, HG.out.2⟩
          rw [← hdf]
          rw [HY.out]; simp [diffP]
        case measure => rw [HV.out]; simp only [sliceLen]; omega
    | cons x l' =>
      cases k' with
      | nil =>
        obtain ⟨a, rfl, h0, h1⟩ := (hP.below hbr).head
        have hs0 := hbr.size
        obtain ⟨pv, cv, rfl, _⟩ := u64_row hO
        clear hP hQ hO
        simp only [List.length_cons, List.length_nil] at hc hd hbd ⊢
        clear h1
        obtain ⟨N2, hN2⟩ : ∃ N2 : Nat, N2 = l'.length + 1 := ⟨_, rfl⟩
        rw [← hN2] at hc hbd ⊢
        have N20 : (0 : Int) < N2 := by omega
        have N21 : (1 : Int) ≤ N2 := by omega
        have N22 : ((N2 : Int) == 0) = false := by rw [beq_eq_false_iff_ne]; omega
        have N23 : ¬ (N2 = 0) := by omega
        have N24 : 0 < N2 := by omega
        have N25 : 1 ≤ N2 := by omega
        have N27 : 1 ≤ c' := by omega
        have HN2 := Lib.hid hN2
        clear hN2
        obtain ⟨xk, hxk⟩ : ∃ xk, xk = x.key := ⟨_, rfl⟩
        rw [← hxk] at h0
        have HX := Lib.hid hxk
        clear hxk
        clear hbr
        go_upto_region 6 with fail
        go_quiet (fail)
        go_upto_region 7 with fail
        obtain ⟨w2, hw2⟩ : ∃ w2, w2 = wr.drewN nq := ⟨_, rfl⟩
        rw [← hw2]
        have hB2 : Below w.heap.size w w2 := by rw [hw2]; exact below_drewN (HS.out.2.2.2.2) _
        have hO2 : w2.ownsRow w.heap.size 33 1 (.slice pv dn.length cv) dn.length (ints dn) := by rw [hw2]; exact HS.out.2.2.1
        have h02 : w2.cell? a = some (.int .u64 xk) := by rw [hw2]; exact h0
        clear h0 hw2
        obtain ⟨v', w', g1, g2, g3⟩ := app_nextD w.heap.size w w2 (.slice pv dn.length cv) dn xk rfl hB2 hO2 (by omega) 40
        obtain ⟨pw, cw, rfl, _⟩ := u64_row g2
        have HG := Lib.hid (And.intro g2 g3)
        clear g2 g3 hO2 hB2
        go_region_law_o (refine step_append_runI rfl (.tmp 54) (.tmp 59) _ _ rfl (.slice pv dn.length cv) (.slice (some ⟨w2.heap.size, 0, none⟩) 1 1) (by simp [Act.eval]) (by simp [Act.eval]) g1 ?_)
        obtain ⟨U, hU⟩ : ∃ U, U = Value.slice (if c' = 1 then some a else some { block := a.block, off := a.off + 2 }) (N2 - 1) (c' - 1) := ⟨_, rfl⟩
        rw [← hU]
        have HU := Lib.hid hU
        clear hU
        simp only [List.getElem_toArray, List.getElem_cons_succ, List.getElem_cons_zero, Act.put]
        simp only [List.setIfInBounds_toArray, List.set_cons_succ, List.set_cons_zero]
        simp only [Exit.inBlock]
        go_big_open
        refine then_normal ?_
        go_roundw
        case rel =>
          obtain ⟨hP, hQ, hO, hdf, hbr⟩ := HS.out
          refine ⟨(if c' = 1 then some a else some ⟨a.block, a.off + 2, none⟩), q', c' - 1, d', l', [], dn ++ [xk], by rw [HU.out, HN2.out]; rfl, rfl, by have := HN2.out; omega, by simp, by have := HN2.out; simp; omega, (hP.tail (by have := HN2.out; omega)), hQ, by have h := HG.out.1; rw [List.length_append] at h ⊢; exact h, ?_, HG.out.2⟩
          rw [← hdf]
          rw [HX.out]; simp [diffP]
        case measure => rw [HU.out]; simp only [sliceLen]; omega
      | cons y k' =>
        obtain ⟨a, rfl, h0, h1⟩ := (hP.below hbr).head
        obtain ⟨b, rfl, g0, g9⟩ := (hQ.below hbr).head
        have hs0 := hbr.size
        obtain ⟨pv, cv, rfl, _⟩ := u64_row hO
        clear hP hQ hO
        simp only [List.length_cons] at hc hd hbd ⊢
        obtain ⟨N2, hN2⟩ : ∃ N2 : Nat, N2 = l'.length + 1 := ⟨_, rfl⟩
        rw [← hN2] at hc hbd ⊢
        have N20 : (0 : Int) < N2 := by omega
        have N21 : (1 : Int) ≤ N2 := by omega
        have N22 : ((N2 : Int) == 0) = false := by rw [beq_eq_false_iff_ne]; omega
        have N23 : ¬ (N2 = 0) := by omega
        have N24 : 0 < N2 := by omega
        have N25 : 1 ≤ N2 := by omega
        have N27 : 1 ≤ c' := by omega
        have HN2 := Lib.hid hN2
        clear hN2
        obtain ⟨M, hM⟩ : ∃ M : Nat, M = k'.length + 1 := ⟨_, rfl⟩
        rw [← hM] at hd hbd ⊢
        have M0 : (0 : Int) < M := by omega
        have M1 : (1 : Int) ≤ M := by omega
        have M2 : ((M : Int) == 0) = false := by rw [beq_eq_false_iff_ne]; omega
        have M3 : ¬ (M = 0) := by omega
        have M4 : 0 < M := by omega
        have M5 : 1 ≤ M := by omega
        have M7 : 1 ≤ d' := by omega
        have HM := Lib.hid hM
        clear hM
        obtain ⟨xk, hxk⟩ : ∃ xk, xk = x.key := ⟨_, rfl⟩
        rw [← hxk] at h0
        have HX := Lib.hid hxk
        clear hxk
        obtain ⟨yk, hyk⟩ : ∃ yk, yk = y.key := ⟨_, rfl⟩
        rw [← hyk] at g0
        have HY := Lib.hid hyk
        clear hyk
        obtain ⟨xv, hxv⟩ : ∃ xv, xv = x.val := ⟨_, rfl⟩
        obtain ⟨yv, hyv⟩ : ∃ yv, yv = y.val := ⟨_, rfl⟩
        rw [← hxv] at h1
        rw [← hyv] at g9
        have HXV := Lib.hid (And.intro hxv hyv)
        clear hxv hyv
        clear hbr
        by_cases hlt : xk < yk
        · clear g9 h1
          have hlt1 : decide (xk < yk) = true := decide_eq_true hlt
          go_upto_region 6 with fail
          go_quiet (fail)
          go_upto_region 7 with fail
          obtain ⟨w2, hw2⟩ : ∃ w2, w2 = wr.drewN nq := ⟨_, rfl⟩
          rw [← hw2]
          have hB2 : Below w.heap.size w w2 := by rw [hw2]; exact below_drewN (HS.out.2.2.2.2) _
          have hO2 : w2.ownsRow w.heap.size 33 1 (.slice pv dn.length cv) dn.length (ints dn) := by rw [hw2]; exact HS.out.2.2.1
          have h02 : w2.cell? a = some (.int .u64 xk) := by rw [hw2]; exact h0
          clear h0 hw2
          obtain ⟨v', w', g1, g2, g3⟩ := app_nextD w.heap.size w w2 (.slice pv dn.length cv) dn xk rfl hB2 hO2 (by omega) 40
          obtain ⟨pw, cw, rfl, _⟩ := u64_row g2
          have HG := Lib.hid (And.intro g2 g3)
          clear g2 g3 hO2 hB2
          go_region_law_o (refine step_append_runI rfl (.tmp 54) (.tmp 59) _ _ rfl (.slice pv dn.length cv) (.slice (some ⟨w2.heap.size, 0, none⟩) 1 1) (by simp [Act.eval]) (by simp [Act.eval]) g1 ?_)
          obtain ⟨U, hU⟩ : ∃ U, U = Value.slice (if c' = 1 then some a else some { block := a.block, off := a.off + 2 }) (N2 - 1) (c' - 1) := ⟨_, rfl⟩
          rw [← hU]
          have HU := Lib.hid hU
          clear hU
          simp only [List.getElem_toArray, List.getElem_cons_succ, List.getElem_cons_zero, Act.put]
          simp only [List.setIfInBounds_toArray, List.set_cons_succ, List.set_cons_zero]
          simp only [Exit.inBlock]
          go_big_open
          refine then_normal ?_
          go_roundw
          case rel =>
            obtain ⟨hP, hQ, hO, hdf, hbr⟩ := HS.out
            refine ⟨(if c' = 1 then some a else some ⟨a.block, a.off + 2, none⟩), some b, c' - 1, d', l', y :: k', dn ++ [xk], by rw [HU.out, HN2.out]; rfl, by rw [HM.out]; rfl, by have := HN2.out; omega, by have := HM.out; simp; omega, by have := HN2.out; have := HM.out; simp; omega, (hP.tail (by have := HN2.out; omega)), hQ, by have h := HG.out.1; rw [List.length_append] at h ⊢; exact h, ?_, HG.out.2⟩
            rw [← hdf]
            rw [HX.out]; rw [HX.out, HY.out] at hlt; rw [diffP.eq_4, if_pos hlt]; simp
          case measure => rw [HU.out]; simp only [sliceLen]; omega
        · by_cases hgt : yk < xk
          · clear g9 h1
            have hlt1 : decide (xk < yk) = false := decide_eq_false hlt
            have hgt1 : decide (yk < xk) = true := decide_eq_true hgt
            go_upto_region 6 with fail
            go_quiet (fail)
            go_upto_region 8 with fail
            go_quiet (fail)
            go_upto_region 9 with fail
            rename_i n1
            obtain ⟨w2, hw2⟩ : ∃ w2, w2 = (wr.drewN n1).drewN nq := ⟨_, rfl⟩
            rw [← hw2]
            have hB2 : Below w.heap.size w w2 := by rw [hw2]; exact below_drewN (below_drewN (HS.out.2.2.2.2) _) _
            have hO2 : w2.ownsRow w.heap.size 33 1 (.slice pv dn.length cv) dn.length (ints dn) := by rw [hw2]; exact HS.out.2.2.1
            have g02 : w2.cell? b = some (.int .u64 yk) := by rw [hw2]; exact g0
            clear g0 hw2
            obtain ⟨v', w', g1, g2, g3⟩ := app_nextD w.heap.size w w2 (.slice pv dn.length cv) dn yk rfl hB2 hO2 (by omega) 40
            obtain ⟨pw, cw, rfl, _⟩ := u64_row g2
            have HG := Lib.hid (And.intro g2 g3)
            clear g2 g3 hO2 hB2
            go_region_law_o (refine step_append_runI rfl (.tmp 78) (.tmp 83) _ _ rfl (.slice pv dn.length cv) (.slice (some ⟨w2.heap.size, 0, none⟩) 1 1) (by simp [Act.eval]) (by simp [Act.eval]) g1 ?_)
            obtain ⟨V, hV⟩ : ∃ V, V = Value.slice (if d' = 1 then some b else some { block := b.block, off := b.off + 2 }) (M - 1) (d' - 1) := ⟨_, rfl⟩
            rw [← hV]
            have HV := Lib.hid hV
            clear hV
            simp only [List.getElem_toArray, List.getElem_cons_succ, List.getElem_cons_zero, Act.put]
            simp only [List.setIfInBounds_toArray, List.set_cons_succ, List.set_cons_zero]
            simp only [Exit.inBlock]
            go_big_open
            refine then_normal ?_
            go_roundw
            case rel =>
              obtain ⟨hP, hQ, hO, hdf, hbr⟩ := HS.out
              refine ⟨some a, (if d' = 1 then some b else some ⟨b.block, b.off + 2, none⟩), c', d' - 1, x :: l', k', dn ++ [yk], by rw [HN2.out]; rfl, by rw [HV.out, HM.out]; rfl, by have := HN2.out; simp; omega, by have := HM.out; omega, by have := HN2.out; have := HM.out; simp; omega, hP, (hQ.tail (by have := HM.out; omega)), by have h := HG.out.1; rw [List.length_append] at h ⊢; exact h, ?_, HG.out.2⟩
              rw [← hdf]
              rw [HY.out]; rw [HX.out, HY.out] at hlt hgt; rw [diffP.eq_4, if_neg hlt, if_pos hgt]; simp
            case measure => rw [HV.out]; simp only [sliceLen]; omega
          · have hlt1 : decide (xk < yk) = false := decide_eq_false hlt
            have hgt1 : decide (yk < xk) = false := decide_eq_false hgt
            by_cases hev : xv = yv
            · have hev1 : (xv == yv) = true := beq_iff_eq.2 hev
              go_upto_region 6 with fail
              go_quiet (fail)
              go_upto_region 8 with fail
              go_quiet (fail)
              go_upto_region 3 with fail
              go_quiet (fail)
              go_upto_region 5 with fail
              go_quiet (fail)
              obtain ⟨U, hU⟩ : ∃ U, U = Value.slice (if c' = 1 then some a else some { block := a.block, off := a.off + 2 }) (N2 - 1) (c' - 1) := ⟨_, rfl⟩
              rw [← hU]
              have HU := Lib.hid hU
              clear hU
              obtain ⟨V, hV⟩ : ∃ V, V = Value.slice (if d' = 1 then some b else some { block := b.block, off := b.off + 2 }) (M - 1) (d' - 1) := ⟨_, rfl⟩
              rw [← hV]
              have HV := Lib.hid hV
              clear hV
              simp only [Exit.inBlock]
              go_big_open
              refine then_normal ?_
              go_roundw
              case rel =>
                obtain ⟨hP, hQ, hO, hdf, hbr⟩ := HS.out
                refine ⟨(if c' = 1 then some a else some ⟨a.block, a.off + 2, none⟩), (if d' = 1 then some b else some ⟨b.block, b.off + 2, none⟩), c' - 1, d' - 1, l', k', dn, by rw [HU.out, HN2.out]; rfl, by rw [HV.out, HM.out]; rfl, by have := HN2.out; omega, by have := HM.out; omega, by have := HN2.out; have := HM.out; omega, (hP.tail (by have := HN2.out; omega)), (hQ.tail (by have := HM.out; omega)), hO, ?_, below_drewN (below_drewN (below_drewN (below_drewN hbr _) _) _) _⟩
                rw [← hdf]
                have e1 := HXV.out.1; have e2 := HXV.out.2; rw [HX.out, HY.out] at hlt hgt; rw [e1, e2] at hev; rw [diffP.eq_4, if_neg hlt, if_neg hgt, if_neg (by simpa using hev)]
              case measure => rw [HU.out, HV.out]; simp only [sliceLen]; omega
            · have hev1 : (xv == yv) = false := beq_eq_false_iff_ne.2 hev
              go_upto_region 6 with fail
              go_quiet (fail)
              go_upto_region 8 with fail
              go_quiet (fail)
              go_upto_region 3 with fail
              go_quiet (fail)
              go_upto_region 4 with fail
              rename_i n1 n2 K1 hK1 Q1
              obtain ⟨w2, hw2⟩ : ∃ w2, w2 = ((wr.drewN n1).drewN n2).drewN nq := ⟨_, rfl⟩
              rw [← hw2]
              have hB2 : Below w.heap.size w w2 := by rw [hw2]; exact below_drewN (below_drewN (below_drewN (HS.out.2.2.2.2) _) _) _
              have hO2 : w2.ownsRow w.heap.size 33 1 (.slice pv dn.length cv) dn.length (ints dn) := by rw [hw2]; exact HS.out.2.2.1
              have h02 : w2.cell? a = some (.int .u64 xk) := by rw [hw2]; exact h0
              clear h0 hw2
              clear g0 h1 g9
              obtain ⟨v', w', g1, g2, g3⟩ := app_nextA w.heap.size w w2 (.slice pv dn.length cv) dn xk rfl hB2 hO2 (by omega) 40
              obtain ⟨pw, cw, rfl, _⟩ := u64_row g2
              have HG := Lib.hid (And.intro g2 g3)
              clear g2 g3 hO2 hB2
              go_upto_region 5 with (at_builtin; refine Lib.wpList_append_run _ rfl _ _ _ _ rfl _ _ rfl rfl _ _ g1 ?_)
              go_quiet (fail)
              obtain ⟨U, hU⟩ : ∃ U, U = Value.slice (if c' = 1 then some a else some { block := a.block, off := a.off + 2 }) (N2 - 1) (c' - 1) := ⟨_, rfl⟩
              rw [← hU]
              have HU := Lib.hid hU
              clear hU
              obtain ⟨V, hV⟩ : ∃ V, V = Value.slice (if d' = 1 then some b else some { block := b.block, off := b.off + 2 }) (M - 1) (d' - 1) := ⟨_, rfl⟩
              rw [← hV]
              have HV := Lib.hid hV
              clear hV
              simp only [Exit.inBlock]
              go_big_open
              refine then_normal ?_
              go_roundw
              case rel =>
                obtain ⟨hP, hQ, hO, hdf, hbr⟩ := HS.out
                refine ⟨(if c' = 1 then some a else some ⟨a.block, a.off + 2, none⟩), (if d' = 1 then some b else some ⟨b.block, b.off + 2, none⟩), c' - 1, d' - 1, l', k', dn ++ [xk], by rw [HU.out, HN2.out]; rfl, by rw [HV.out, HM.out]; rfl, by have := HN2.out; omega, by have := HM.out; omega, by have := HN2.out; have := HM.out; simp; omega, (hP.tail (by have := HN2.out; omega)), (hQ.tail (by have := HM.out; omega)), by have h := HG.out.1; rw [List.length_append] at h ⊢; exact h, ?_, below_drewN HG.out.2 _⟩
                rw [← hdf]
                have e1 := HXV.out.1; have e2 := HXV.out.2; rw [HX.out, HY.out] at hlt hgt; rw [e1, e2] at hev; rw [diffP.eq_4, if_neg hlt, if_neg hgt, if_pos hev]; rw [HX.out]; simp
              case measure => rw [HU.out, HV.out]; simp only [sliceLen]; omega

end Go.Proofs.YtfnnfgiflhpefaaDoor
