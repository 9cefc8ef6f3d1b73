/-
  amblernum.Sorted: a new slice of the entries in their order.
-/
import Derived.Test.YtacdbgoffepaaaaDoorCurOn
import Derived.Deep.AppendLies
import Derived.Deep.RegionHeld3
import Derived.Maps.AppendAt
namespace Go.Proofs.YtacdbgoffepaaaaDoor
open Go.RowKit

/-- An entry: its key, value and hash. -/
structure Ent3 where
  key : Int
  val : Int
  hash : Int
def Ent3.ok (x : Ent3) : Prop := 0 ≤ x.key ∧ x.key < 18446744073709551616 ∧ 0 ≤ x.hash ∧ x.hash < 18446744073709551616
def Ent3.cells (x : Ent3) : List Value := [.int .u64 x.key, .int .u64 x.val, .int .u64 x.hash]
def flat (l : List Ent3) : List Value := l.flatMap Ent3.cells
def Ent3.less (x y : Ent3) : Bool := lessB x.hash x.key y.hash y.key
/-- A slice of entries, as the walk meets it. -/
def EntsAt (w : World) (p : Option Addr) (n : Nat) (F : Nat → Ent3) : Prop :=
  ∀ i, i < n → ∃ a, p = some a ∧ w.cell? (a.add (i * 3)) = some (.int .u64 (F i).key) ∧ w.cell? ⟨(a.add (i * 3)).block, (a.add (i * 3)).off + 1, none⟩ = some (.int .u64 (F i).val) ∧ w.cell? ⟨(a.add (i * 3)).block, (a.add (i * 3)).off + 2, none⟩ = some (.int .u64 (F i).hash)
theorem EntsAt.below {w w' : World} {p : Option Addr} {n : Nat} {F : Nat → Ent3} (H : EntsAt w p n F) (hb : Below w.heap.size w w') : EntsAt w' p n F := by
  intro i hi
  obtain ⟨a, hp, h0, h1, h2⟩ := H i hi
  have hl := block_lt_of_cell h0
  exact ⟨a, hp, (hb.cell hl).trans h0, (hb.cell (p := ⟨(a.add (i * 3)).block, _, none⟩) hl).trans h1, (hb.cell (p := ⟨(a.add (i * 3)).block, _, none⟩) hl).trans h2⟩

theorem flat_length (l : List Ent3) : (flat l).length = l.length * 3 := by
  induction l with
  | nil => rfl
  | cons x l ih => simp [flat, Ent3.cells] at ih ⊢; omega
theorem flat_app (l m : List Ent3) : flat (l ++ m) = flat l ++ flat m := by simp [flat]
theorem flat_take (l : List Ent3) (k : Nat) (hk : k ≤ l.length) : (flat l).take (k * 3) = flat (l.take k) := by
  have e : flat l = flat (l.take k) ++ flat (l.drop k) := by rw [← flat_app, List.take_append_drop]
  rw [e, List.take_append_of_le_length (by rw [flat_length]; simp; omega), List.take_of_length_le (by rw [flat_length]; simp; omega)]
theorem flat_drop (l : List Ent3) (k : Nat) (hk : k ≤ l.length) : (flat l).drop (k * 3) = flat (l.drop k) := by
  have e : flat l = flat (l.take k) ++ flat (l.drop k) := by rw [← flat_app, List.take_append_drop]
  rw [e, List.drop_append_of_le_length (by rw [flat_length]; simp; omega), List.drop_of_length_le (by rw [flat_length]; simp; omega), List.nil_append]
theorem flat_get (l : List Ent3) (k : Nat) (hk : k < l.length) (j : Nat) (hj : j < 3) : (flat l)[k * 3 + j]? = (l[k]).cells[j]? := by
  have h := flat_drop l k (by omega)
  rw [← List.getElem?_drop, h, List.drop_eq_getElem_cons hk]
  simp only [flat, List.flatMap_cons]
  rw [List.getElem?_append_left (by simpa [Ent3.cells] using hj)]
theorem flat_one (l : List Ent3) : ∀ u ∈ flat l, u.oneCell' = true := by
  intro u hu
  obtain ⟨x, _, hx⟩ := List.mem_flatMap.1 hu
  simp [Ent3.cells] at hx
  rcases hx with rfl | rfl | rfl <;> rfl

/-- Where an entry goes: behind all that it is not ahead of, from the left. -/
def pos (x : Ent3) : List Ent3 → Nat
  | [] => 0
  | y :: l => if x.less y then 0 else pos x l + 1
def ins (x : Ent3) (l : List Ent3) : List Ent3 := l.take (pos x l) ++ x :: l.drop (pos x l)
def sortTo (F : Nat → Ent3) : Nat → List Ent3
  | 0 => []
  | j + 1 => ins (F j) (sortTo F j)
theorem pos_le (x : Ent3) (l : List Ent3) : pos x l ≤ l.length := by
  induction l with
  | nil => simp [pos]
  | cons y l ih =>
    unfold pos
    split
    · simp
    · simp; exact ih
theorem pos_before (x : Ent3) (l : List Ent3) (k : Nat) (hk : k < pos x l) (hl : k < l.length) : x.less l[k] = false := by
  induction l generalizing k with
  | nil => simp [pos] at hk
  | cons y l ih =>
    unfold pos at hk
    split at hk
    · omega
    · rename_i h
      cases k with
      | zero => simpa using h
      | succ k => simpa using ih k (by omega) (by simpa using hl)
theorem pos_at (x : Ent3) (l : List Ent3) (hl : pos x l < l.length) : x.less l[pos x l] = true := by
  induction l with
  | nil => simp at hl
  | cons y l ih =>
    by_cases h : x.less y = true
    · simp [pos, h]
    · have h' : x.less y = false := by simpa using h
      simp [pos, h'] at hl ⊢
      exact ih hl
theorem ins_length (x : Ent3) (l : List Ent3) : (ins x l).length = l.length + 1 := by
  have := pos_le x l
  simp [ins]; omega
theorem sortTo_length (F : Nat → Ent3) (j : Nat) : (sortTo F j).length = j := by
  induction j with
  | zero => rfl
  | succ j ih => rw [sortTo, ins_length, ih]

/-- The row of an own slice of entries. -/
def OwnEnts (w : World) (base : Nat) (v : Value) (l : List Ent3) : Prop := (∃ g cap, v = .slice (some ⟨g, 0, none⟩) l.length cap ∧ l.length ≤ cap) ∧ w.ownsRow base 42 3 v l.length (flat l)
theorem own_lt {w : World} {base : Nat} {e : TypeId} {size g n cap : Nat} {xs : List Value} (h : w.ownsRow base e size (.slice (some ⟨g, 0, none⟩) n cap) n xs) : base ≤ g ∧ g < w.heap.size ∧ n ≤ cap ∧ cap ≤ maxLen := by
  rcases h.2 with ⟨h0, _⟩ | ⟨g', cap', cur, hv, hb, hg, h1, h2, _⟩
  · cases h0
  · injection hv with hv1 hv2 hv3
    injection hv1 with hv1
    injection hv1 with hv1
    subst hv1 hv3
    exact ⟨hb, lt_of_block hg, h1, h2⟩
theorem own_below {w w' : World} {base : Nat} {e : TypeId} {size g n cap : Nat} {xs : List Value} (h : w.ownsRow base e size (.slice (some ⟨g, 0, none⟩) n cap) n xs) (hb : Below w.heap.size w w') : w'.ownsRow base e size (.slice (some ⟨g, 0, none⟩) n cap) n xs := by
  have hl := own_lt h
  refine ⟨h.1, ?_⟩
  rcases h.2 with h0 | ⟨g', cap', cur, hv, hb', hg, r⟩
  · exact Or.inl h0
  · exact Or.inr ⟨g', cap', cur, hv, hb', (hb.block g' (lt_of_block hg)).trans hg, r⟩

theorem cells_take {w : World} {base g n c : Nat} {l : List Ent3} (h : w.ownsRow base 42 3 (.slice (some ⟨g, 0, none⟩) n c) n (flat l)) (k : Nat) (hk : k ≤ l.length) : ∀ j u, (flat (l.take k))[j]? = some u → w.cell? ((⟨g, 0, none⟩ : Addr).add j) = some u := by
  intro j u hu
  refine h.cells (g := g) rfl j u ?_
  rw [← flat_take l k hk, List.getElem?_take] at hu
  split at hu
  · exact hu
  · cases hu
theorem cells_drop {w : World} {base g n c : Nat} {l : List Ent3} (h : w.ownsRow base 42 3 (.slice (some ⟨g, 0, none⟩) n c) n (flat l)) (k : Nat) (hk : k ≤ l.length) : ∀ j u, (flat (l.drop k))[j]? = some u → w.cell? ((⟨g, k * 3, none⟩ : Addr).add j) = some u := by
  intro j u hu
  have := h.cells (g := g) rfl (k * 3 + j) u (by rw [← flat_drop l k hk, List.getElem?_drop] at hu; exact hu)
  rw [Addr.add_mid, Nat.zero_add] at this
  rwa [Addr.add_mid]
theorem cells_cut {w : World} {base g n c : Nat} {l : List Ent3} (h : w.ownsRow base 42 3 (.slice (some ⟨g, 0, none⟩) n c) n (flat l)) (k : Nat) (hk : k ≤ l.length) (hn : l.length = n) (hc : n ≤ c) : ∀ j u, (flat (l.drop k))[j]? = some u → w.cell? ((if c = k then (⟨g, 0, none⟩ : Addr) else ⟨g, k * 3, none⟩).add j) = some u := by
  by_cases e : c = k
  · intro j u hu
    rw [List.drop_of_length_le (by omega)] at hu
    simp [flat] at hu
  · rw [if_neg e]
    exact cells_drop h k hk
theorem own_base {w : World} {base base' : Nat} {e : TypeId} {size n : Nat} {v : Value} {xs : List Value} (h : w.ownsRow base e size v n xs) (hb : base' ≤ base) : w.ownsRow base' e size v n xs := by
  refine ⟨h.1, ?_⟩
  rcases h.2 with h0 | ⟨g, cap, cur, hv, hg, r⟩
  · exact Or.inl h0
  · exact Or.inr ⟨g, cap, cur, hv, by omega, r⟩
theorem flat_ins (x : Ent3) (l : List Ent3) : (flat (l.take (pos x l)) ++ x.cells) ++ flat (l.drop (pos x l)) = flat (ins x l) := by simp [ins, flat]
theorem cells_blk {w : World} {b : Nat} {x : Ent3} (h : EntAt w b x.key x.val x.hash) : ∀ j u, x.cells[j]? = some u → w.cell? ((⟨b, 0, none⟩ : Addr).add j) = some u := by
  intro j u hu
  rw [Addr.add_mid, Nat.zero_add, Blk.cell h]
  simpa [Ent3.cells] using hu
theorem own_empty {w : World} {base b : Nat} (h : Blk w b 42 #[]) (hb : base ≤ b) : w.ownsRow base 42 3 (.slice (some ⟨b, 0, none⟩) 0 0) 0 [] :=
  ⟨rfl, Or.inr ⟨b, 0, #[], rfl, hb, h, Nat.le_refl _, by decide, rfl, rfl⟩⟩
theorem EntAt.grown {w w' : World} {b g : Nat} {k v h : Int} (H : EntAt w b k v h) (hg : w.grownBy w' (some g)) (hne : b ≠ g) : EntAt w' b k v h := (hg.block b (Blk.lt H) (by simpa using hne)).trans H
theorem info_ent : ∃ i, Tryd.prog.info? 42 = some i ∧ i.zero = some (.agg #[.int .u64 0, .int .u64 0, .int .u64 0]) ∧ i.size = 3 ∧ i.bytes = 24 := by
  have h : (Tryd.prog.info? 42).map (fun i => (i.zero, i.size, i.bytes)) = some (some (.agg #[.int .u64 0, .int .u64 0, .int .u64 0]), 3, 24) := by kernel_rfl
  cases hi : Tryd.prog.info? 42 with
  | none => rw [hi] at h; cases h
  | some i =>
    rw [hi] at h
    simp only [Option.map_some, Option.some.injEq, Prod.mk.injEq] at h
    exact ⟨i, rfl, h.1, h.2.1, h.2.2⟩
theorem step_app {ops : Array Oper} {o : Oper} {a : Act} {K : Act → World → Prop} {Q : Exit → Act → World → Prop} {E : Prop} (w : World) (hgd : o.guard = none) (s x : Operand)
    (ho : o.op = .call { callee := .builtin .append, args := #[s, x], argTypes := #[38, 38] }) (base g n c : Nat) (xs : List Value) (hs : a.eval s = .slice (some ⟨g, 0, none⟩) n c)
    (hown : w.ownsRow base 42 3 (.slice (some ⟨g, 0, none⟩) n c) n xs) (ad : Addr) (m c2 : Nat) (news : List Value) (hx : a.eval x = .slice (some ad) m c2) (hl : news.length = m * 3)
    (hnews : ∀ j u, news[j]? = some u → w.cell? (ad.add j) = some u) (h1 : ∀ u ∈ news, u.oneCell' = true) (N : Nat) (XS : List Value) (hN : n + m = N) (hXS : xs ++ news = XS) (hle : N ≤ 100) (hbase : base ≤ w.heap.size)
    (h : ∀ g' c' w', w'.ownsRow base 42 3 (.slice (some ⟨g', 0, none⟩) N c') N XS → w.grownBy w' (some g) → K (a.put o.dst (.slice (some ⟨g', 0, none⟩) N c')) w') :
    if Region.wanted o (yielded ops a.tmps) = true then Oper.wp Tryd.prog o a w K Q else E := by
  subst hN hXS
  have hw : Region.wanted o (yielded ops a.tmps) = true := by simp [Region.wanted, hgd]
  rw [if_pos hw]
  obtain ⟨i0, hi0, hz0, hz1, hz2⟩ := info_ent
  obtain ⟨v', w', hr, h2, h3, h4, h5⟩ := run_append_own_at (P := Tryd.prog) w base 38 o.type 42 i0 _ 3 24 Tryd.underlying38 hi0 hz0 hz1 hz2 rfl (by omega) _ n xs hown ad m c2 news hl hnews h1 (by unfold maxLen; omega) (by omega) hbase
  unfold Oper.wp execOp
  simp only [ho, resolve, invoke, builtin, Sem.run_bind, Sem.run_pure, Result.andThen_ok, List.map_toArray, List.map_cons, List.map_nil, hs, hx, hr]
  rcases h2.2 with ⟨hv, _⟩ | ⟨g', c', cur, hv, _⟩
  · have := h4.1 hv
    cases this.1
  · subst hv
    exact h g' c' w' h2 h3

set_option maxHeartbeats 1000000 in
set_option maxRecDepth 100000 in
theorem sorted_any (p : Option Addr) (n cap : Nat) (F : Nat → Ent3) (w : World) (hA : EntsAt w p n F) (hn : n ≤ 60) :
    Calls Tryd.prog 22 #[.slice p n cap] w fun e w' => ∃ g c, e = .returned (.slice (some ⟨g, 0, none⟩) n c) ∧ w'.ownsRow w.heap.size 42 3 (.slice (some ⟨g, 0, none⟩) n c) n (flat (sortTo F n)) ∧ Below w.heap.size w w' := by
  have HA := Lib.hid hA
  clear hA
  go_enter Tryd.func22, Tryd.ntmps22
  go_wp2_with fail
  go_loopw [10, 3] (fun i s wr => ∃ (j g c : Nat), j ≤ n ∧ i = .int .i64 j ∧ s = .slice (some ⟨g, 0, none⟩) j c ∧ wr.ownsRow w.heap.size 42 3 (.slice (some ⟨g, 0, none⟩) j c) j (flat (sortTo F j)) ∧ Below w.heap.size w wr) (fun i _ _ => n - (intOf i).toNat)
  case atStart =>
    refine ⟨0, w.heap.size, 0, by omega, rfl, rfl, ⟨rfl, Or.inr ⟨w.heap.size, 0, #[], rfl, Nat.le_refl _, heap_alloc_new _ _, Nat.le_refl _, by decide, rfl, rfl⟩⟩, (Below.refl _ _).alloc (Nat.le_refl _) _⟩
  case round =>
    obtain ⟨j, g, c, hj, rfl, rfl, hown, hb⟩ := hrel
    by_cases hlt : j < n
    · obtain ⟨a, rfl, ha0, ha1, ha2⟩ := (HA.out.below hb) j hlt
      have hjl := sortTo_length F j
      have HL := Lib.hid hjl
      have HN := Lib.hid (show sortTo F (j + 1) = ins (F j) (sortTo F j) from rfl)
      generalize hx : F j = x at *
      generalize hl : sortTo F j = l at *
      clear hx hl hjl
      have HO := Lib.hid (And.intro hown hb)
      clear hown hb
      go_upto_region 5 with fail
      generalize hw4 : wr.alloc (Obj.cells #[Value.int IntKind.u64 x.key, Value.int IntKind.u64 x.val, Value.int IntKind.u64 x.hash] 42) = w4
      have hB4 : Below wr.heap.size wr w4 := by subst hw4; exact (Below.refl _ _).alloc (Nat.le_refl _) _
      have hE4 : EntAt w4 wr.heap.size x.key x.val x.hash := by subst hw4; exact Blk.new wr _ _
      have HS := Lib.hid (And.intro hE4 (And.intro (own_below HO.out.1 hB4) (HO.out.2.trans (hB4.mono HO.out.2.size))))
      have HNE := Lib.hid (Nat.ne_of_lt (own_lt HO.out.1).2.1)
      clear hw4 hB4 hE4 ha0 ha1 ha2 HO
      generalize wr.heap.size = eb at *
      go_wp2_with fail
      go_loopw [6] (fun i wr => ∃ k : Nat, k ≤ pos x l ∧ i = .int .i64 k ∧ Below w4.heap.size w4 wr) (fun i _ => pos x l - (intOf i).toNat)
      case atStart => exact ⟨0, by omega, rfl, Below.refl _ _⟩
      case round =>
        obtain ⟨k, hk, rfl, hb⟩ := hrel
        have HS5 := Lib.hid (And.intro (EntAt.below HS.out.1 hb) (And.intro (own_below HS.out.2.1 hb) (HS.out.2.2.trans (hb.mono HS.out.2.2.size))))
        have HB5 := Lib.hid hb
        clear hb
        have hpl : pos x l ≤ j := by have := pos_le x l; have := HL.out; omega
        go_upto_region 6 with fail
        go_cut [26] (fun s26 wx => s26 = .bool (decide (k < pos x l)) ∧ Below wr.heap.size wr wx)
        case first =>
          refine region_all (C := Below wr.heap.size wr) (by kernel_rfl) (by kernel_rfl) (below_drew _) ?_
          have HC0 : Below wr.heap.size wr wr := Below.refl _ _
          by_cases hkj : k < j
          · have hkl : k < l.length := by have := HL.out; omega
            have HY := Lib.hid (show ∀ w', Below wr.heap.size wr w' → w'.cell? ⟨g, k * 3, none⟩ = some (.int .u64 (l[k]).key) ∧ w'.cell? ⟨g, k * 3 + 1, none⟩ = some (.int .u64 (l[k]).val) ∧ w'.cell? ⟨g, k * 3 + 2, none⟩ = some (.int .u64 (l[k]).hash) from fun w' hw' => by
              have h := (own_below HS5.out.2.1 hw').cells (g := g) rfl
              refine ⟨?_, ?_, ?_⟩
              · have := h (k * 3 + 0) _ ((flat_get l k hkl 0 (by decide)).trans rfl)
                rwa [Addr.add_mid, Nat.zero_add] at this
              · have := h (k * 3 + 1) _ ((flat_get l k hkl 1 (by decide)).trans rfl)
                rwa [Addr.add_mid, Nat.zero_add] at this
              · have := h (k * 3 + 2) _ ((flat_get l k hkl 2 (by decide)).trans rfl)
                rwa [Addr.add_mid, Nat.zero_add] at this)
            have HP := Lib.hid (show x.less l[k] = !decide (k < pos x l) by
              by_cases hp : k < pos x l
              · rw [pos_before x l k hp hkl]; simp [hp]
              · have e : pos x l = k := by omega
                have := pos_at x l (by omega)
                simp only [e] at this
                rw [this]; simp [hp])
            generalize l[k] = y at *
            have X1 := Lib.hid (fun W => before_any x.key x.val x.hash y.key y.val y.hash W)
            change Hid (∀ W, Calls _ _ _ W fun e w' => e = .returned (.bool (x.less y)) ∧ _) at X1
            rw [HP.out] at X1
            generalize decide (k < pos x l) = q at *
            cases q
            all_goals
              open BigFrame in
              repeat (first | go_big_quiet_skip | (go_big_quiet_want; first | (apply quiet_one (hC := HC0); exact rfl; exact Nat.le_of_ble_eq_true rfl; (focus (intro w' hw'; have c1 := (HS5.out.1.below hw').cells; obtain ⟨c10, c11, c12⟩ := c1; have c2 := HY.out w' hw'; obtain ⟨c20, c21, c22⟩ := c2; go_big_quiet_op; with_reducible exact rfl)); go_big_quiet_on) | (go_big_quiet_op; apply Exists.intro; refine ⟨fun w' hw' => ?_, ?_⟩; (focus (have c1 := (HS5.out.1.below hw').cells; obtain ⟨c10, c11, c12⟩ := c1; have c2 := HY.out w' hw'; obtain ⟨c20, c21, c22⟩ := c2; first | ((with_reducible exact quiet_call hw' (X1.out _))))); go_big_quiet_on)))
              refine wpQuiet_nil ?_
              intro w6 hb6
              go_wp2
              go_meet
              exact ⟨rfl, hb6⟩
          · have hq : decide (k < pos x l) = false := by simp; omega
            have HQ := Lib.hid hq
            clear hq
            open BigFrame in
            repeat (first | go_big_quiet_skip | (go_big_quiet_want; first | (apply quiet_one (hC := HC0); exact rfl; exact Nat.le_of_ble_eq_true rfl; (focus (intro w' hw'; skip; go_big_quiet_op; with_reducible exact rfl)); go_big_quiet_on) | (go_big_quiet_op; apply Exists.intro; refine ⟨fun w' hw' => ?_, ?_⟩; (focus (skip; first | (fail))); go_big_quiet_on)))
            refine wpQuiet_nil ?_
            intro w6 hb6
            go_wp2
            go_meet
            exact ⟨congrArg Value.bool HQ.out.symm, hb6⟩
        case rest =>
          obtain ⟨rfl, hbc⟩ := hcut
          have HB6 := Lib.hid (HB5.out.trans (hbc.mono HB5.out.size))
          by_cases hlt2 : k < pos x l
          · go_wp2
            go_roundw
            case rel => exact ⟨k + 1, by omega, by go_num, HB6.out⟩
            case measure => simp [intOf]; omega
          · obtain rfl : k = pos x l := by omega
            clear hlt2
            go_upto_region 8 with fail
            have HE := Lib.hid (And.intro (EntAt.below HS.out.1 HB6.out) (And.intro (own_below HS.out.2.1 HB6.out) (HS.out.2.2.trans (HB6.out.mono HS.out.2.2.size))))
            have hgc := (own_lt HE.out.2.1).2.2.1
            obtain ⟨e0, e1, e2⟩ := EntAt.cells HE.out.1
            have hp0 : (0 : Int) ≤ ((pos x l : Nat) : Int) := Int.natCast_nonneg _
            have hp1 : ((pos x l : Nat) : Int) ≤ (j : Int) := by omega
            have hp2 : ((pos x l : Nat) : Int) ≤ (c : Int) := by omega
            have hp3 : (j : Int) ≤ (c : Int) := by omega
            clear HS5 HB5 hbc HB6
            have WA := Lib.hid (show Below wc.heap.size wc (wc.alloc (Obj.cells #[] 42)).drew ∧ (wc.alloc (Obj.cells #[] 42)).drew.ownsRow wc.heap.size 42 3 (.slice (some ⟨wc.heap.size, 0, none⟩) 0 0) 0 [] from ⟨((Below.refl _ _).alloc (Nat.le_refl _) _).drew, own_empty (Blk.new wc _ _) (Nat.le_refl _)⟩)
            have WB := Lib.hid (show Below wc.heap.size wc ((wc.alloc (Obj.cells #[] 42)).alloc (Obj.cells #[.int .u64 x.key, .int .u64 x.val, .int .u64 x.hash] 42)).drew ∧ ((wc.alloc (Obj.cells #[] 42)).alloc (Obj.cells #[.int .u64 x.key, .int .u64 x.val, .int .u64 x.hash] 42)).drew.ownsRow wc.heap.size 42 3 (.slice (some ⟨wc.heap.size, 0, none⟩) 0 0) 0 [] ∧ EntAt ((wc.alloc (Obj.cells #[] 42)).alloc (Obj.cells #[.int .u64 x.key, .int .u64 x.val, .int .u64 x.hash] 42)).drew (wc.heap.size + 1) x.key x.val x.hash from ⟨(((Below.refl _ _).alloc (Nat.le_refl _) _).alloc (by simp) _).drew, own_empty ((Blk.new wc _ _).alloc _) (Nat.le_refl _), heap_alloc2_new wc _ _⟩)
            have WC := Lib.hid (show Below wc.heap.size wc ((wc.alloc (Obj.cells #[.int .u64 x.key, .int .u64 x.val, .int .u64 x.hash] 42)).alloc (Obj.cells #[] 42)).drew ∧ ((wc.alloc (Obj.cells #[.int .u64 x.key, .int .u64 x.val, .int .u64 x.hash] 42)).alloc (Obj.cells #[] 42)).drew.ownsRow wc.heap.size 42 3 (.slice (some ⟨wc.heap.size + 1, 0, none⟩) 0 0) 0 [] ∧ EntAt ((wc.alloc (Obj.cells #[.int .u64 x.key, .int .u64 x.val, .int .u64 x.hash] 42)).alloc (Obj.cells #[] 42)).drew wc.heap.size x.key x.val x.hash from ⟨(((Below.refl _ _).alloc (Nat.le_refl _) _).alloc (by simp) _).drew, own_empty (heap_alloc2_new wc _ _) (Nat.le_succ _), (Blk.new wc _ _).alloc _⟩)
            have hlen1 : (flat (l.take (pos x l))).length = pos x l * 3 := by rw [flat_length, List.length_take]; have := HL.out; omega
            have hlen2 : (flat (l.drop (pos x l))).length = (j - pos x l) * 3 := by rw [flat_length, List.length_drop]; have := HL.out; omega
            have HLN := Lib.hid (And.intro hlen1 hlen2)
            clear hlen1 hlen2
            go_region_held3 (fun w' => w'.cell? ⟨eb, 0, none⟩ = some (.int .u64 x.key) ∧ w'.cell? ⟨eb, 1, none⟩ = some (.int .u64 x.val) ∧ w'.cell? ⟨eb, 2, none⟩ = some (.int .u64 x.hash))
              (first | exact ⟨e0, e1, e2⟩ | exact EntAt.cells (EntAt.below HE.out.1 HB3.out) | exact EntAt.cells (EntAt.below HE.out.1 HB2.out) | exact EntAt.cells (EntAt.below HE.out.1 HB1.out) | exact EntAt.cells (EntAt.below HE.out.1 HB1'.out) | go_keep)
              (first
                | ((refine step_app _ (by rfl) _ _ (by rfl) wc.heap.size wc.heap.size 0 0 [] (by rfl) WA.out.2 ⟨g, 0, none⟩ (pos x l) c (flat (l.take (pos x l))) (by rfl) HLN.out.1 (cells_take (own_below HE.out.2.1 WA.out.1) _ (pos_le x l)) (flat_one _) (pos x l) (flat (l.take (pos x l))) (Nat.zero_add _) (List.nil_append _) (by omega) WA.out.1.size ?_; intro g1 c1 w1 hown1 hgrow1; have HB1 := Lib.hid (WA.out.1.grown hgrow1 WA.out.1.size (fun k hk => by injection hk with hk; omega)); have HX := Lib.hid (show EntAt (w1.alloc (Obj.cells #[.int .u64 x.key, .int .u64 x.val, .int .u64 x.hash] 42)) w1.heap.size x.key x.val x.hash from Blk.new w1 _ _); have HB1' := Lib.hid (HB1.out.alloc HB1.out.size (Obj.cells #[.int .u64 x.key, .int .u64 x.val, .int .u64 x.hash] 42)); have hown1' := hown1.alloc (Obj.cells #[.int .u64 x.key, .int .u64 x.val, .int .u64 x.hash] 42)))
                | ((refine step_app _ (by rfl) _ _ (by rfl) wc.heap.size wc.heap.size 0 0 [] (by rfl) WB.out.2.1 ⟨g, 0, none⟩ (pos x l) c (flat (l.take (pos x l))) (by rfl) HLN.out.1 (cells_take (own_below HE.out.2.1 WB.out.1) _ (pos_le x l)) (flat_one _) (pos x l) (flat (l.take (pos x l))) (Nat.zero_add _) (List.nil_append _) (by omega) WB.out.1.size ?_; intro g1 c1 w1 hown1 hgrow1; have HB1 := Lib.hid (WB.out.1.grown hgrow1 WB.out.1.size (fun k hk => by injection hk with hk; omega)); have HX := Lib.hid (EntAt.grown WB.out.2.2 hgrow1 (by omega))))
                | ((refine step_app _ (by rfl) _ _ (by rfl) wc.heap.size (wc.heap.size + 1) 0 0 [] (by rfl) WC.out.2.1 ⟨g, 0, none⟩ (pos x l) c (flat (l.take (pos x l))) (by rfl) HLN.out.1 (cells_take (own_below HE.out.2.1 WC.out.1) _ (pos_le x l)) (flat_one _) (pos x l) (flat (l.take (pos x l))) (Nat.zero_add _) (List.nil_append _) (by omega) WC.out.1.size ?_; intro g1 c1 w1 hown1 hgrow1; have HB1 := Lib.hid (WC.out.1.grown hgrow1 WC.out.1.size (fun k hk => by injection hk with hk; omega)); have HX := Lib.hid (EntAt.grown WC.out.2.2 hgrow1 (by omega))))
                | ((refine step_app _ (by rfl) _ _ (by rfl) wc.heap.size g1 (pos x l) c1 (flat (l.take (pos x l))) (by rfl) hown1' ⟨w1.heap.size, 0, none⟩ 1 1 x.cells (by rfl) (by rfl) (cells_blk HX.out) (by simp [Ent3.cells, Value.oneCell']) (pos x l + 1) (flat (l.take (pos x l)) ++ x.cells) rfl rfl (by omega) HB1'.out.size ?_; intro g2 c2 w2 hown2 hgrow2; have HB2 := Lib.hid (HB1'.out.grown hgrow2 HB1'.out.size (fun k hk => by injection hk with hk; have := (own_lt hown1).1; omega))))
                | ((refine step_app _ (by rfl) _ _ (by rfl) wc.heap.size g1 (pos x l) c1 (flat (l.take (pos x l))) (by rfl) hown1 ⟨(wc.heap.size + 1), 0, none⟩ 1 1 x.cells (by rfl) (by rfl) (cells_blk HX.out) (by simp [Ent3.cells, Value.oneCell']) (pos x l + 1) (flat (l.take (pos x l)) ++ x.cells) rfl rfl (by omega) HB1.out.size ?_; intro g2 c2 w2 hown2 hgrow2; have HB2 := Lib.hid (HB1.out.grown hgrow2 HB1.out.size (fun k hk => by injection hk with hk; have := (own_lt hown1).1; omega))))
                | ((refine step_app _ (by rfl) _ _ (by rfl) wc.heap.size g1 (pos x l) c1 (flat (l.take (pos x l))) (by rfl) hown1 ⟨wc.heap.size, 0, none⟩ 1 1 x.cells (by rfl) (by rfl) (cells_blk HX.out) (by simp [Ent3.cells, Value.oneCell']) (pos x l + 1) (flat (l.take (pos x l)) ++ x.cells) rfl rfl (by omega) HB1.out.size ?_; intro g2 c2 w2 hown2 hgrow2; have HB2 := Lib.hid (HB1.out.grown hgrow2 HB1.out.size (fun k hk => by injection hk with hk; have := (own_lt hown1).1; omega))))
                | ((refine step_app _ (by rfl) _ _ (by rfl) wc.heap.size g2 (pos x l + 1) c2 (flat (l.take (pos x l)) ++ x.cells) (by rfl) hown2 (if c = pos x l then (⟨g, 0, none⟩ : Addr) else ⟨g, pos x l * 3, none⟩) (j - pos x l) (c - pos x l) (flat (l.drop (pos x l))) (by exact congrArg (fun z => Value.slice z (j - pos x l) (c - pos x l)) (apply_ite some (c = pos x l) (⟨g, 0, none⟩ : Addr) ⟨g, pos x l * 3, none⟩).symm) HLN.out.2 (cells_cut (own_below HE.out.2.1 HB2.out) _ (pos_le x l) HL.out hgc) (flat_one _) (j + 1) (flat (ins x l)) (by omega) (flat_ins x l) (by omega) HB2.out.size ?_; intro g3 c3 w3 hown3 hgrow3; have HB3 := Lib.hid (HB2.out.grown hgrow3 HB2.out.size (fun k hk => by injection hk with hk; have := (own_lt hown2).1; omega)))))
            all_goals
              have hown4 := Lib.hid (own_base hown3 HE.out.2.2.size)
              clear hown3 hgrow3
              go_wp2
              go_roundw
              case rel => exact ⟨j + 1, g3, c3, by omega, by go_num, rfl, by rw [HN.out]; exact hown4.out, HE.out.2.2.trans (HB3.out.mono HE.out.2.2.size)⟩
              case measure => simp [intOf]; omega
    · obtain rfl : j = n := by omega
      have HO := Lib.hid (And.intro hown hb)
      clear hown hb
      go_wp2
      go_ret
      exact ⟨g, c, rfl, HO.out.1, HO.out.2⟩

end Go.Proofs.YtacdbgoffepaaaaDoor
