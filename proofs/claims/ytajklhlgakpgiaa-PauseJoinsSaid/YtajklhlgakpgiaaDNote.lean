/-
  The reference of the layer pause (amblerref34): Note. (Printed by mknote.py.)
-/
import Derived.Test.YtajklhlgakpgiaaDReg
import Derived.Test.YtajklhlgakpgiaaDAlive
namespace Go.Proofs.Ytajklhlgakpgiaa
open Go.RowKit Go.Lib

/-! ### rows of whole numbers -/
def nums (xs : List Int) : List Value := xs.map (.int .i64 ·)
theorem nums_length (xs : List Int) : (nums xs).length = xs.length := by simp [nums]
theorem nums_one (l : List Int) : ∀ u ∈ nums l, u.oneCell' = true := fun u hu => by
  obtain ⟨x, _, rfl⟩ := List.mem_map.1 hu
  rfl
theorem nums_app (l m : List Int) : nums (l ++ m) = nums l ++ nums m := List.map_append
theorem nums_take (l : List Int) (k : Nat) : nums (l.take k) = (nums l).take k := by simp [nums, List.map_take]
theorem nums_drop (l : List Int) (k : Nat) : nums (l.drop k) = (nums l).drop k := by simp [nums, List.map_drop]
theorem num_row {w : World} {base n : Nat} {v : Value} {xs : List Int} (h : w.ownsRow base 3 1 v n (nums xs)) : ∃ p c, v = .slice p n c ∧ xs.length = n ∧ n ≤ c ∧ (∀ k, v.ownBlock = some k → base ≤ k) ∧ ∀ i (hi : i < xs.length), ∃ a, p = some a ∧ w.cell? (a.add i) = some (.int .i64 xs[i]) := by
  have hl : xs.length = n := by have := h.1; rw [nums_length] at this; omega
  rcases h.2 with ⟨rfl, rfl⟩ | ⟨g, cap, cur, rfl, hb, hg, hc, _, hs, ht⟩
  · exact ⟨none, 0, rfl, hl, Nat.le_refl _, fun k hk => (nomatch hk), fun i hi => absurd hi (by omega)⟩
  · refine ⟨some ⟨g, 0, none⟩, cap, rfl, hl, hc, fun k hk => by injection hk with hk; exact hk ▸ hb, fun i hi => ⟨⟨g, 0, none⟩, rfl, ?_⟩⟩
    rw [Addr.add_lit, Nat.zero_add, cell_of_row w g _ cur _ _ hg, ← Array.getElem?_toList]
    have hj : (nums xs)[i]? = some (.int .i64 xs[i]) := by simp [nums, hi]
    rw [← ht, List.getElem?_take] at hj
    split at hj
    · exact hj
    · cases hj
theorem row_or {w : World} {base n z : Nat} {e : TypeId} {v : Value} {xs : List Value} (h : w.ownsRow base e z v n xs) : (v = .slice none 0 0 ∧ n = 0) ∨ ∃ g c, v = .slice (some ⟨g, 0, none⟩) n c ∧ n ≤ c := by
  rcases h.2 with ⟨rfl, rfl⟩ | ⟨g, cap, cur, rfl, hb, hg, hc, _, hs, ht⟩
  · exact .inl ⟨rfl, rfl⟩
  · exact .inr ⟨g, cap, rfl, hc⟩
theorem num_take {w : World} {B n k g c : Nat} {e : TypeId} {xs : List Int} (h : w.ownsRow B e 1 (.slice (some ⟨g, 0, none⟩) n c) n (nums xs)) (hk : k ≤ n) : ArgAt w 1 (.slice (some ⟨g, 0, none⟩) k c) k (nums (xs.take k)) := by
  have hl := h.1
  rw [nums_length] at hl
  rcases ArgAt.of_row h with ⟨h0, _⟩ | ⟨a', c', h0, h1, h2⟩
  · cases h0
  · injection h0 with e1 e2 e3
    injection e1 with e1
    subst e1 e3
    refine .inr ⟨_, c, rfl, by rw [nums_length, List.length_take]; omega, fun j v hj => h2 j v ?_⟩
    rw [nums_take, List.getElem?_take] at hj
    split at hj
    · exact hj
    · cases hj
theorem num_drop {w : World} {B n k g c : Nat} {e : TypeId} {xs : List Int} (h : w.ownsRow B e 1 (.slice (some ⟨g, 0, none⟩) n c) n (nums xs)) (hk : k ≤ n) (hc : n ≤ c) : ArgAt w 1 (.slice (if c = k then some ⟨g, 0, none⟩ else some ⟨g, k, none⟩) (n - k) (c - k)) (n - k) (nums (xs.drop k)) := by
  have hl := h.1
  rw [nums_length] at hl
  rcases ArgAt.of_row h with ⟨h0, _⟩ | ⟨a', c', h0, h1, h2⟩
  · cases h0
  · injection h0 with e1 e2 e3
    injection e1 with e1
    subst e1 e3
    have hln : (nums (xs.drop k)).length = (n - k) * 1 := by rw [nums_length, List.length_drop]; omega
    by_cases hz : c = k
    · rw [if_pos hz]
      refine .inr ⟨_, _, rfl, hln, fun j v hj => ?_⟩
      have := (List.getElem?_eq_some_iff.1 hj).1
      omega
    · rw [if_neg hz]
      refine .inr ⟨_, _, rfl, hln, fun j v hj => ?_⟩
      rw [nums_drop, List.getElem?_drop] at hj
      have := h2 _ v hj
      rw [Addr.add_lit] at this ⊢
      rw [show k + j = 0 + (k + j) by omega]
      exact this
theorem arg_nil {w : World} {z : Nat} : ArgAt w z (.slice none 0 0) 0 [] := .inl ⟨rfl, rfl, rfl⟩
theorem info_i64 : ∃ i, Try.prog.info? 3 = some i ∧ i.zero = some (.int .i64 0) ∧ i.size = 1 ∧ i.bytes = 8 := by
  obtain ⟨i, hi⟩ : ∃ i, Try.prog.info? 3 = some i := Option.isSome_iff_exists.1 (by kernel_rfl)
  have h : ((Try.prog.info? 3).map fun i => (i.size, i.bytes)) = some (1, 8) := by kernel_rfl
  have hz : (Try.prog.info? 3).bind (·.zero) = some (.int .i64 0) := by kernel_rfl
  rw [hi] at h hz
  exact ⟨i, hi, by simpa using hz, by simpa using congrArg Prod.fst (Option.some.inj h), by simpa using congrArg Prod.snd (Option.some.inj h)⟩
theorem app_i64' {w : World} (base : Nat) (ty : TypeId) (v : Value) (n : Nat) (xs : List Value) (hown : w.ownsRow base 3 1 v n xs) (u : Value) (m : Nat) (ys : List Int) (hu : ArgAt w 1 u m (nums ys)) (hn : n + m ≤ 3000) (hbase : base ≤ w.heap.size) :
    ∃ v' w', (Builtin.append_ #[22, 22] ty #[v, u]).run Try.prog w = .ok v' w' ∧ w'.ownsRow base 3 1 v' (n + m) (xs ++ nums ys) ∧ w.grownBy w' v.ownBlock ∧ (v'.ownBlock = v.ownBlock ∨ v'.ownBlock = some w.heap.size) := by
  obtain ⟨i, hi, hz, hs, hb⟩ := info_i64
  exact app_arg base _ ty _ i _ 1 8 Try.underlying22 hi hz hs hb rfl (by omega) (by omega) v n _ hown u m _ hu (nums_one _) hn hbase

/-! ### the reference's record -/
structure RN (w : World) (T : Nat → Prop) (r : Nat) (L : List Int) : Prop where
  ex : ∃ v, Blk w r 33 #[v] ∧ w.ownsRow 0 3 1 v L.length (nums L) ∧ ∀ k, v.ownBlock = some k → T k ∧ k ≠ r
  own : T r
  lt : ∀ k, T k → k < w.heap.size
  small : L.length ≤ 1000
theorem RN.chg {T S' : Nat → Prop} {w w' : World} {r : Nat} {L : List Int} (H : RN w T r L) (h : Chg S' w w') (hn : ∀ k, T k → ¬ S' k) : RN w' T r L := by
  obtain ⟨v, h1, h2, h4⟩ := H.ex
  exact ⟨⟨v, h.blk h1 (hn r H.own), owns_chg h h2 (fun k hk => hn k (h4 k hk).1), h4⟩, H.own, fun k hk => Nat.lt_of_lt_of_le (H.lt k hk) h.size, H.small⟩
theorem RN.below {T : Nat → Prop} {w w' : World} {r : Nat} {L : List Int} (H : RN w T r L) (h : Below w.heap.size w w') : RN w' T r L :=
  H.chg (S' := fun _ => False) (Chg.of h) fun _ _ h => h

def insR (x : Int) : List Int → List Int
  | [] => [x]
  | y :: l => if y ≤ x then y :: insR x l else x :: y :: l
theorem insR_at {x : Int} {L : List Int} {k : Nat} (hk : k ≤ L.length) (hlo : ∀ t (h : t < L.length), t < k → L[t] ≤ x) (hhi : ∀ h : k < L.length, ¬ L[k] ≤ x) : insR x L = L.take k ++ ([x] ++ L.drop k) := by
  induction L generalizing k with
  | nil => simp [insR]
  | cons y l ih =>
    cases k with
    | zero =>
      have := hhi (by simp)
      simp only [List.getElem_cons_zero] at this
      simp [insR, this]
    | succ k =>
      have h0 := hlo 0 (by simp) (by omega)
      simp only [List.getElem_cons_zero] at h0
      rw [insR, if_pos h0, List.take_succ_cons, List.drop_succ_cons, List.cons_append]
      rw [ih (k := k) (Nat.le_of_succ_le_succ hk) (fun t h ht => hlo (t + 1) (Nat.succ_lt_succ h) (by omega)) (fun h => hhi (Nat.succ_lt_succ h))]
theorem insR_len (x : Int) (L : List Int) : (insR x L).length = L.length + 1 := by
  induction L with
  | nil => rfl
  | cons y l ih => simp only [insR]; split <;> simp [ih]

/-- What the operations of Note's region hand back: x put in at place k. -/
def spNote (r m k : Nat) (vL vlo vhi : Value) (L : List Int) (x : Int) (j : Nat) : Sp :=
  ([.q (.pointer (some ⟨r, 0, none⟩)), .r 0 [] 8, .q (.pointer (some ⟨r, 0, none⟩)), .q (.pointer (some ⟨r, 0, none⟩)), .q (.pointer (some ⟨r, 0, none⟩)), .q vL, .q (.int .i64 k), .q vlo, .r (0 + k) ([] ++ nums (L.take k)) 11,
    .q (.int .i64 x), .r 1 (nums [x]) 11, .r (0 + k + 1) (([] ++ nums (L.take k)) ++ nums [x]) 18,
    .q (.pointer (some ⟨r, 0, none⟩)), .q (.pointer (some ⟨r, 0, none⟩)), .q (.pointer (some ⟨r, 0, none⟩)), .q vL, .q (.int .i64 k), .q vhi,
    .r (0 + k + 1 + (m - k)) ((([] ++ nums (L.take k)) ++ nums [x]) ++ nums (L.drop k)) 999] : List Sp).getD j (.q undef)

set_option maxHeartbeats 4000000 in
set_option maxRecDepth 100000 in
theorem noter_nil0 (T : Nat → Prop) (r : Nat) (n : Int) (w : World) (H : RN w T r []) (h1 : Blk w r 33 #[.slice none 0 0]) (h2 : w.ownsRow 0 3 1 (.slice none 0 0) 0 (nums [])) (n1 : n < 0) :
    Calls Try.prog 28 #[.pointer (some ⟨r, 0, none⟩), .int .i64 n] w fun e w' => e = .returned (.tuple #[]) ∧ ∃ T', RN w' T' r (insR 0 []) ∧ Chg (fun i => i = r) w w' ∧ New w T T' := by
  have q0 := h1.cell 0
  have mixed : Try.prog.follows .mixedOrders = true := by kernel_rfl
  have k0 : ArgAt w 1 (.slice none 0 0) 0 (nums (([] : List Int).take 0)) := arg_nil
  have k1 : ArgAt w 1 (.slice none 0 0) 0 (nums (([] : List Int).drop 0)) := arg_nil
  have HX := Lib.hid (And.intro H (And.intro h1 (And.intro h2 True.intro)))
  clear h1 h2 H
  go_enter Try.func28, Try.ntmps28
  go_wp2_with fail
  go_loop [4] (fun s4 => s4 = .int .i64 0) (fun _ => 0)
  case atStart => rfl
  case round =>
    obtain rfl := hrel
    go_upto_region 7 with fail
    refine wp_region_any mixed ?_
    refine wpAny_take (i := 0) rfl (by kernel_rfl) (by kernel_rfl) (by kernel_rfl) (fun _ _ _ h => h) (.inl ⟨rfl, fun w => rfl⟩) ?_
    refine any_inv (l := _) 19 [0] (RInv w.heap.size w 3 1 _ 19 (fun i => 29 + i) (spNote r 0 0 (.slice none 0 0) (.slice none 0 0) (.slice none 0 0) [] 0)) (by decide) (by kernel_rfl) (by kernel_rfl) (by kernel_rfl) (by kernel_rfl) ?_ ?_ 18 _ _ _ ((headInv_start _ 19).set (mem_of_contains (by kernel_rfl)) (by decide)) (fun i hi => by cases List.mem_singleton.1 hi; kernel_rfl) ((RInv.start _).advq (i := 0) (by decide) (by decide) (fun j k _ _ h e => h (Nat.add_left_cancel e)) (fun j hj => (by omega : 29 + j < 50)) _ rfl) (by decide +kernel)
    · intro listed a W io hi hsz _ HI hr
      have hsz' : io < listed.size := by rw [hsz]; show io < 22; omega
      have dinj : ∀ j k, j < 19 → k < 19 → j ≠ k → (fun i => 29 + i) j ≠ (fun i => 29 + i) k := fun j k _ _ h e => h (Nat.add_left_cancel e)
      have hd : ∀ j, j < 19 → (fun i => 29 + i) j < 50 := fun j hj => (by omega : 29 + j < 50)
      have e0 : a.tmps[0]?.getD undef = .pointer (some ⟨r, 0, none⟩) := raw (HI.keep 0 (fun j _ => (by omega : 29 + j ≠ 0)))
      have e1 : a.tmps[1]?.getD undef = .int .i64 0 := raw (HI.keep 1 (fun j _ => (by omega : 29 + j ≠ 1)))
      have e4 : a.tmps[4]?.getD undef = .int .i64 0 := raw (HI.keep 4 (fun j _ => (by omega : 29 + j ≠ 4)))
      have c0 : W.cell? ⟨r, 0, none⟩ = some (.slice none 0 0) := (HI.bel.cell (block_lt_of_cell q0)).trans q0
      have bW : Below w.heap.size w W := HI.bel
      match io, hi with
      | 0, hi =>
        refine HI.quiet hi hsz' dinj hd rfl rfl rfl (fun K h => ?_)
        simp [go_sem, e0]
        exact h
      | 1, hi =>
        refine HI.build rfl hi hsz' dinj hd rfl rfl rfl rfl (by decide) (fun K h => ?_)
        simp [go_sem]
        exact h
      | 2, hi =>
        refine HI.quiet hi hsz' dinj hd rfl rfl rfl (fun K h => ?_)
        simp [go_sem, e0]
        exact h
      | 3, hi =>
        have d2 := raw (HI.qs 2 _ (by decide) (dep hr 2 (by kernel_rfl)) rfl)
        refine HI.quiet hi hsz' dinj hd rfl rfl rfl (fun K h => ?_)
        simp [go_sem, d2]
        exact h
      | 4, hi =>
        have d3 := raw (HI.qs 3 _ (by decide) (dep hr 3 (by kernel_rfl)) rfl)
        refine HI.quiet hi hsz' dinj hd rfl rfl rfl (fun K h => ?_)
        simp [go_sem, d3]
        exact h
      | 5, hi =>
        have d4 := raw (HI.qs 4 _ (by decide) (dep hr 4 (by kernel_rfl)) rfl)
        refine HI.quiet hi hsz' dinj hd rfl rfl rfl (fun K h => ?_)
        simp [go_sem, d4, c0]
        exact h
      | 6, hi =>
        refine HI.quiet hi hsz' dinj hd rfl rfl rfl (fun K h => ?_)
        simp [go_sem, e4]
        exact h
      | 7, hi =>
        have d5 := raw (HI.qs 5 _ (by decide) (dep hr 5 (by kernel_rfl)) rfl)
        have d6 := raw (HI.qs 6 _ (by decide) (dep hr 6 (by kernel_rfl)) rfl)
        refine HI.quiet hi hsz' dinj hd rfl rfl rfl (fun K h => ?_)
        simp [go_sem, d5, d6]
        exact h
      | 8, hi =>
        have hun := getD_both (mem_ready.1 hr).1
        have hu := HI.qs 7 _ (by decide) (dep hr 7 (by kernel_rfl)) rfl
        refine HI.append rfl hi hsz' dinj hd (j1 := 1) (by decide) (dep hr 1 (by kernel_rfl)) rfl hun (by decide) rfl rfl (.tmp 36) _ _ rfl rfl _ hu rfl (fun v hv => app_i64' _ _ v _ _ hv _ _ _ (k0.below bW) (by omega) (by have := HI.bel.size; exact this))
      | 9, hi =>
        refine HI.quiet hi hsz' dinj hd rfl rfl rfl (fun K h => ?_)
        simp [go_sem, e1]
        exact h
      | 10, hi =>
        have d9 := raw (HI.qs 9 _ (by decide) (dep hr 9 (by kernel_rfl)) rfl)
        refine HI.build rfl hi hsz' dinj hd rfl rfl rfl rfl (by decide) (fun K h => ?_)
        simp [go_sem, d9]
        exact h
      | 11, hi =>
        have hun := getD_both (mem_ready.1 hr).1
        have hrow := HI.rs 10 1 _ 11 (by decide) (dep hr 10 (by kernel_rfl)) rfl hun
        refine HI.append rfl hi hsz' dinj hd (j1 := 8) (by decide) (dep hr 8 (by kernel_rfl)) rfl hun (by decide) rfl rfl (.tmp 39) _ _ rfl rfl _ rfl rfl (fun v hv => app_i64' _ _ v _ _ hv _ 1 _ (ArgAt.of_row hrow) (by omega) (by have := HI.bel.size; exact this))
      | 12, hi =>
        refine HI.quiet hi hsz' dinj hd rfl rfl rfl (fun K h => ?_)
        simp [go_sem, e0]
        exact h
      | 13, hi =>
        have d12 := raw (HI.qs 12 _ (by decide) (dep hr 12 (by kernel_rfl)) rfl)
        refine HI.quiet hi hsz' dinj hd rfl rfl rfl (fun K h => ?_)
        simp [go_sem, d12]
        exact h
      | 14, hi =>
        have d13 := raw (HI.qs 13 _ (by decide) (dep hr 13 (by kernel_rfl)) rfl)
        refine HI.quiet hi hsz' dinj hd rfl rfl rfl (fun K h => ?_)
        simp [go_sem, d13]
        exact h
      | 15, hi =>
        have d14 := raw (HI.qs 14 _ (by decide) (dep hr 14 (by kernel_rfl)) rfl)
        refine HI.quiet hi hsz' dinj hd rfl rfl rfl (fun K h => ?_)
        simp [go_sem, d14, c0]
        exact h
      | 16, hi =>
        refine HI.quiet hi hsz' dinj hd rfl rfl rfl (fun K h => ?_)
        simp [go_sem, e4]
        exact h
      | 17, hi =>
        have d15 := raw (HI.qs 15 _ (by decide) (dep hr 15 (by kernel_rfl)) rfl)
        have d16 := raw (HI.qs 16 _ (by decide) (dep hr 16 (by kernel_rfl)) rfl)
        refine HI.quiet hi hsz' dinj hd rfl rfl rfl (fun K h => ?_)
        simp [go_sem, d15, d16]
        exact h
      | 18, hi =>
        have hun := getD_both (mem_ready.1 hr).1
        have hu := HI.qs 17 _ (by decide) (dep hr 17 (by kernel_rfl)) rfl
        refine HI.append rfl hi hsz' dinj hd (j1 := 11) (by decide) (dep hr 11 (by kernel_rfl)) rfl hun (by decide) rfl rfl (.tmp 46) _ _ rfl rfl _ hu rfl (fun v hv => app_i64' _ _ v _ _ hv _ _ _ (k1.below bW) (by omega) (by have := HI.bel.size; exact this))
      | kk + 19, hi => exact absurd hi (by omega)
    · intro listed a W hall hsz HI
      have hout : ∀ c, 100 < c → listed.size = 22 → listed.getD c false = false := fun c hc h => by simp [Array.getD, h]; omega
      have r18 := HI.rs 18 _ _ 999 (by decide) (hall 18 (by decide)) rfl (hout 999 (by decide) hsz)
      have s0 : a.tmps.getD 0 undef = .pointer (some ⟨r, 0, none⟩) := HI.keep 0 (fun j _ => (by omega : 29 + j ≠ 0))
      have s29 : a.tmps.getD 29 undef = .pointer (some ⟨r, 0, none⟩) := HI.qs 0 _ (by decide) (hall 0 (by decide)) rfl
      have h62 : a.tmps.size = 50 := HI.size
      have hdf : a.defers = [] := HI.defers
      have bW : Below w.heap.size w W := HI.bel
      clear HI hall hsz hout
      obtain ⟨⟨ts⟩, df⟩ := a
      have hz : ts.length = 50 := h62
      obtain rfl : df = [] := hdf
      clear h62
      obtain ⟨u0, ts0, rfl, hz0⟩ := cons_of hz
      clear hz
      obtain ⟨u1, ts1, rfl, hz1⟩ := cons_of hz0
      clear hz0
      obtain ⟨u2, ts2, rfl, hz2⟩ := cons_of hz1
      clear hz1
      obtain ⟨u3, ts3, rfl, hz3⟩ := cons_of hz2
      clear hz2
      obtain ⟨u4, ts4, rfl, hz4⟩ := cons_of hz3
      clear hz3
      obtain ⟨u5, ts5, rfl, hz5⟩ := cons_of hz4
      clear hz4
      obtain ⟨u6, ts6, rfl, hz6⟩ := cons_of hz5
      clear hz5
      obtain ⟨u7, ts7, rfl, hz7⟩ := cons_of hz6
      clear hz6
      obtain ⟨u8, ts8, rfl, hz8⟩ := cons_of hz7
      clear hz7
      obtain ⟨u9, ts9, rfl, hz9⟩ := cons_of hz8
      clear hz8
      obtain ⟨u10, ts10, rfl, hz10⟩ := cons_of hz9
      clear hz9
      obtain ⟨u11, ts11, rfl, hz11⟩ := cons_of hz10
      clear hz10
      obtain ⟨u12, ts12, rfl, hz12⟩ := cons_of hz11
      clear hz11
      obtain ⟨u13, ts13, rfl, hz13⟩ := cons_of hz12
      clear hz12
      obtain ⟨u14, ts14, rfl, hz14⟩ := cons_of hz13
      clear hz13
      obtain ⟨u15, ts15, rfl, hz15⟩ := cons_of hz14
      clear hz14
      obtain ⟨u16, ts16, rfl, hz16⟩ := cons_of hz15
      clear hz15
      obtain ⟨u17, ts17, rfl, hz17⟩ := cons_of hz16
      clear hz16
      obtain ⟨u18, ts18, rfl, hz18⟩ := cons_of hz17
      clear hz17
      obtain ⟨u19, ts19, rfl, hz19⟩ := cons_of hz18
      clear hz18
      obtain ⟨u20, ts20, rfl, hz20⟩ := cons_of hz19
      clear hz19
      obtain ⟨u21, ts21, rfl, hz21⟩ := cons_of hz20
      clear hz20
      obtain ⟨u22, ts22, rfl, hz22⟩ := cons_of hz21
      clear hz21
      obtain ⟨u23, ts23, rfl, hz23⟩ := cons_of hz22
      clear hz22
      obtain ⟨u24, ts24, rfl, hz24⟩ := cons_of hz23
      clear hz23
      obtain ⟨u25, ts25, rfl, hz25⟩ := cons_of hz24
      clear hz24
      obtain ⟨u26, ts26, rfl, hz26⟩ := cons_of hz25
      clear hz25
      obtain ⟨u27, ts27, rfl, hz27⟩ := cons_of hz26
      clear hz26
      obtain ⟨u28, ts28, rfl, hz28⟩ := cons_of hz27
      clear hz27
      obtain ⟨u29, ts29, rfl, hz29⟩ := cons_of hz28
      clear hz28
      obtain ⟨u30, ts30, rfl, hz30⟩ := cons_of hz29
      clear hz29
      obtain ⟨u31, ts31, rfl, hz31⟩ := cons_of hz30
      clear hz30
      obtain ⟨u32, ts32, rfl, hz32⟩ := cons_of hz31
      clear hz31
      obtain ⟨u33, ts33, rfl, hz33⟩ := cons_of hz32
      clear hz32
      obtain ⟨u34, ts34, rfl, hz34⟩ := cons_of hz33
      clear hz33
      obtain ⟨u35, ts35, rfl, hz35⟩ := cons_of hz34
      clear hz34
      obtain ⟨u36, ts36, rfl, hz36⟩ := cons_of hz35
      clear hz35
      obtain ⟨u37, ts37, rfl, hz37⟩ := cons_of hz36
      clear hz36
      obtain ⟨u38, ts38, rfl, hz38⟩ := cons_of hz37
      clear hz37
      obtain ⟨u39, ts39, rfl, hz39⟩ := cons_of hz38
      clear hz38
      obtain ⟨u40, ts40, rfl, hz40⟩ := cons_of hz39
      clear hz39
      obtain ⟨u41, ts41, rfl, hz41⟩ := cons_of hz40
      clear hz40
      obtain ⟨u42, ts42, rfl, hz42⟩ := cons_of hz41
      clear hz41
      obtain ⟨u43, ts43, rfl, hz43⟩ := cons_of hz42
      clear hz42
      obtain ⟨u44, ts44, rfl, hz44⟩ := cons_of hz43
      clear hz43
      obtain ⟨u45, ts45, rfl, hz45⟩ := cons_of hz44
      clear hz44
      obtain ⟨u46, ts46, rfl, hz46⟩ := cons_of hz45
      clear hz45
      obtain ⟨u47, ts47, rfl, hz47⟩ := cons_of hz46
      clear hz46
      obtain ⟨u48, ts48, rfl, hz48⟩ := cons_of hz47
      clear hz47
      obtain ⟨u49, ts49, rfl, hz49⟩ := cons_of hz48
      clear hz48
      obtain rfl := List.length_eq_zero_iff.1 hz49
      clear hz49
      obtain rfl : u0 = .pointer (some ⟨r, 0, none⟩) := s0
      obtain rfl : u29 = .pointer (some ⟨r, 0, none⟩) := s29
      have R18 : W.ownsRow w.heap.size 3 1 u47 (insR 0 []).length (nums (insR 0 [])) := by
        have h9 : W.ownsRow w.heap.size 3 1 u47 (0 + 0 + 1 + (0 - 0)) ((([] ++ nums ([].take 0)) ++ nums [0]) ++ nums ([].drop 0)) := r18
        have he : insR 0 [] = [].take 0 ++ ([0] ++ [].drop 0) := rfl
        rw [insR_len, he, nums_app, nums_app, ← List.append_assoc]
        rw [List.nil_append] at h9
        rw [show ([] : List Int).length + 1 = 0 + 0 + 1 + (0 - 0) by rfl]
        exact h9
      clear r18
      obtain ⟨p5, c5, rfl, _, _, m5, _⟩ := num_row R18
      have b1 := HX.out.2.1.below bW
      have d1 := b1.cell 0
      have f1 := b1.free 0
      have HY := Lib.hid (And.intro R18 (And.intro m5 (And.intro b1 bW)))
      clear R18 m5 b1 bW
      simp only [List.drop_succ_cons, List.drop_zero]
      go_wp2_with fail
      refine bodyPost_end (results_none rfl _ _ _) rfl ?_
      obtain ⟨R18, m5, b1, bW⟩ := HY.out
      obtain ⟨H, h1, h2, _⟩ := HX.out
      have hr := H.lt r H.own
      have hs := bW.size
      have hW : Chg (fun i => i = r) W (W.setCell ⟨r, 0, none⟩ (.slice p5 (insR 0 []).length c5)) := (Chg.refl (fun i => i = r) W).set_ (b := r) rfl _ _
      have hC : Chg (fun i => i = r) w (W.setCell ⟨r, 0, none⟩ (.slice p5 (insR 0 []).length c5)) := (Chg.of bW).trans hW fun i hi => .inl hi
      refine ⟨rfl, fun i => T i ∨ (Value.slice p5 (insR 0 []).length c5).ownBlock = some i, ⟨⟨_, b1.set_ 0 _, owns_chg hW (owns0 R18) fun i hi c => by have := m5 i hi; omega, fun i hi => ⟨.inr hi, by have := m5 i hi; omega⟩⟩, .inl H.own, ?_, by rw [insR_len]; decide⟩, hC, ?_⟩
      · intro i hi
        have hW2 := hW.size
        rcases hi with hi | hi
        · have := H.lt i hi; omega
        · have := (R18.lt i hi).2; omega
      · intro i hi
        rcases hi with hi | hi
        · exact .inl hi
        · exact .inr (m5 i hi)

set_option maxHeartbeats 4000000 in
set_option maxRecDepth 100000 in
theorem noter_nil1 (T : Nat → Prop) (r : Nat) (n : Int) (w : World) (H : RN w T r []) (h1 : Blk w r 33 #[.slice none 0 0]) (h2 : w.ownsRow 0 3 1 (.slice none 0 0) 0 (nums [])) (n1 : ¬ n < 0) (n2 : 1099511627776 < n) :
    Calls Try.prog 28 #[.pointer (some ⟨r, 0, none⟩), .int .i64 n] w fun e w' => e = .returned (.tuple #[]) ∧ ∃ T', RN w' T' r (insR 1099511627776 []) ∧ Chg (fun i => i = r) w w' ∧ New w T T' := by
  have q0 := h1.cell 0
  have mixed : Try.prog.follows .mixedOrders = true := by kernel_rfl
  have k0 : ArgAt w 1 (.slice none 0 0) 0 (nums (([] : List Int).take 0)) := arg_nil
  have k1 : ArgAt w 1 (.slice none 0 0) 0 (nums (([] : List Int).drop 0)) := arg_nil
  have HX := Lib.hid (And.intro H (And.intro h1 (And.intro h2 True.intro)))
  clear h1 h2 H
  go_enter Try.func28, Try.ntmps28
  go_wp2_with fail
  go_loop [4] (fun s4 => s4 = .int .i64 0) (fun _ => 0)
  case atStart => rfl
  case round =>
    obtain rfl := hrel
    go_upto_region 7 with fail
    refine wp_region_any mixed ?_
    refine wpAny_take (i := 0) rfl (by kernel_rfl) (by kernel_rfl) (by kernel_rfl) (fun _ _ _ h => h) (.inl ⟨rfl, fun w => rfl⟩) ?_
    refine any_inv (l := _) 19 [0] (RInv w.heap.size w 3 1 _ 19 (fun i => 29 + i) (spNote r 0 0 (.slice none 0 0) (.slice none 0 0) (.slice none 0 0) [] 1099511627776)) (by decide) (by kernel_rfl) (by kernel_rfl) (by kernel_rfl) (by kernel_rfl) ?_ ?_ 18 _ _ _ ((headInv_start _ 19).set (mem_of_contains (by kernel_rfl)) (by decide)) (fun i hi => by cases List.mem_singleton.1 hi; kernel_rfl) ((RInv.start _).advq (i := 0) (by decide) (by decide) (fun j k _ _ h e => h (Nat.add_left_cancel e)) (fun j hj => (by omega : 29 + j < 50)) _ rfl) (by decide +kernel)
    · intro listed a W io hi hsz _ HI hr
      have hsz' : io < listed.size := by rw [hsz]; show io < 22; omega
      have dinj : ∀ j k, j < 19 → k < 19 → j ≠ k → (fun i => 29 + i) j ≠ (fun i => 29 + i) k := fun j k _ _ h e => h (Nat.add_left_cancel e)
      have hd : ∀ j, j < 19 → (fun i => 29 + i) j < 50 := fun j hj => (by omega : 29 + j < 50)
      have e0 : a.tmps[0]?.getD undef = .pointer (some ⟨r, 0, none⟩) := raw (HI.keep 0 (fun j _ => (by omega : 29 + j ≠ 0)))
      have e1 : a.tmps[1]?.getD undef = .int .i64 1099511627776 := raw (HI.keep 1 (fun j _ => (by omega : 29 + j ≠ 1)))
      have e4 : a.tmps[4]?.getD undef = .int .i64 0 := raw (HI.keep 4 (fun j _ => (by omega : 29 + j ≠ 4)))
      have c0 : W.cell? ⟨r, 0, none⟩ = some (.slice none 0 0) := (HI.bel.cell (block_lt_of_cell q0)).trans q0
      have bW : Below w.heap.size w W := HI.bel
      match io, hi with
      | 0, hi =>
        refine HI.quiet hi hsz' dinj hd rfl rfl rfl (fun K h => ?_)
        simp [go_sem, e0]
        exact h
      | 1, hi =>
        refine HI.build rfl hi hsz' dinj hd rfl rfl rfl rfl (by decide) (fun K h => ?_)
        simp [go_sem]
        exact h
      | 2, hi =>
        refine HI.quiet hi hsz' dinj hd rfl rfl rfl (fun K h => ?_)
        simp [go_sem, e0]
        exact h
      | 3, hi =>
        have d2 := raw (HI.qs 2 _ (by decide) (dep hr 2 (by kernel_rfl)) rfl)
        refine HI.quiet hi hsz' dinj hd rfl rfl rfl (fun K h => ?_)
        simp [go_sem, d2]
        exact h
      | 4, hi =>
        have d3 := raw (HI.qs 3 _ (by decide) (dep hr 3 (by kernel_rfl)) rfl)
        refine HI.quiet hi hsz' dinj hd rfl rfl rfl (fun K h => ?_)
        simp [go_sem, d3]
        exact h
      | 5, hi =>
        have d4 := raw (HI.qs 4 _ (by decide) (dep hr 4 (by kernel_rfl)) rfl)
        refine HI.quiet hi hsz' dinj hd rfl rfl rfl (fun K h => ?_)
        simp [go_sem, d4, c0]
        exact h
      | 6, hi =>
        refine HI.quiet hi hsz' dinj hd rfl rfl rfl (fun K h => ?_)
        simp [go_sem, e4]
        exact h
      | 7, hi =>
        have d5 := raw (HI.qs 5 _ (by decide) (dep hr 5 (by kernel_rfl)) rfl)
        have d6 := raw (HI.qs 6 _ (by decide) (dep hr 6 (by kernel_rfl)) rfl)
        refine HI.quiet hi hsz' dinj hd rfl rfl rfl (fun K h => ?_)
        simp [go_sem, d5, d6]
        exact h
      | 8, hi =>
        have hun := getD_both (mem_ready.1 hr).1
        have hu := HI.qs 7 _ (by decide) (dep hr 7 (by kernel_rfl)) rfl
        refine HI.append rfl hi hsz' dinj hd (j1 := 1) (by decide) (dep hr 1 (by kernel_rfl)) rfl hun (by decide) rfl rfl (.tmp 36) _ _ rfl rfl _ hu rfl (fun v hv => app_i64' _ _ v _ _ hv _ _ _ (k0.below bW) (by omega) (by have := HI.bel.size; exact this))
      | 9, hi =>
        refine HI.quiet hi hsz' dinj hd rfl rfl rfl (fun K h => ?_)
        simp [go_sem, e1]
        exact h
      | 10, hi =>
        have d9 := raw (HI.qs 9 _ (by decide) (dep hr 9 (by kernel_rfl)) rfl)
        refine HI.build rfl hi hsz' dinj hd rfl rfl rfl rfl (by decide) (fun K h => ?_)
        simp [go_sem, d9]
        exact h
      | 11, hi =>
        have hun := getD_both (mem_ready.1 hr).1
        have hrow := HI.rs 10 1 _ 11 (by decide) (dep hr 10 (by kernel_rfl)) rfl hun
        refine HI.append rfl hi hsz' dinj hd (j1 := 8) (by decide) (dep hr 8 (by kernel_rfl)) rfl hun (by decide) rfl rfl (.tmp 39) _ _ rfl rfl _ rfl rfl (fun v hv => app_i64' _ _ v _ _ hv _ 1 _ (ArgAt.of_row hrow) (by omega) (by have := HI.bel.size; exact this))
      | 12, hi =>
        refine HI.quiet hi hsz' dinj hd rfl rfl rfl (fun K h => ?_)
        simp [go_sem, e0]
        exact h
      | 13, hi =>
        have d12 := raw (HI.qs 12 _ (by decide) (dep hr 12 (by kernel_rfl)) rfl)
        refine HI.quiet hi hsz' dinj hd rfl rfl rfl (fun K h => ?_)
        simp [go_sem, d12]
        exact h
      | 14, hi =>
        have d13 := raw (HI.qs 13 _ (by decide) (dep hr 13 (by kernel_rfl)) rfl)
        refine HI.quiet hi hsz' dinj hd rfl rfl rfl (fun K h => ?_)
        simp [go_sem, d13]
        exact h
      | 15, hi =>
        have d14 := raw (HI.qs 14 _ (by decide) (dep hr 14 (by kernel_rfl)) rfl)
        refine HI.quiet hi hsz' dinj hd rfl rfl rfl (fun K h => ?_)
        simp [go_sem, d14, c0]
        exact h
      | 16, hi =>
        refine HI.quiet hi hsz' dinj hd rfl rfl rfl (fun K h => ?_)
        simp [go_sem, e4]
        exact h
      | 17, hi =>
        have d15 := raw (HI.qs 15 _ (by decide) (dep hr 15 (by kernel_rfl)) rfl)
        have d16 := raw (HI.qs 16 _ (by decide) (dep hr 16 (by kernel_rfl)) rfl)
        refine HI.quiet hi hsz' dinj hd rfl rfl rfl (fun K h => ?_)
        simp [go_sem, d15, d16]
        exact h
      | 18, hi =>
        have hun := getD_both (mem_ready.1 hr).1
        have hu := HI.qs 17 _ (by decide) (dep hr 17 (by kernel_rfl)) rfl
        refine HI.append rfl hi hsz' dinj hd (j1 := 11) (by decide) (dep hr 11 (by kernel_rfl)) rfl hun (by decide) rfl rfl (.tmp 46) _ _ rfl rfl _ hu rfl (fun v hv => app_i64' _ _ v _ _ hv _ _ _ (k1.below bW) (by omega) (by have := HI.bel.size; exact this))
      | kk + 19, hi => exact absurd hi (by omega)
    · intro listed a W hall hsz HI
      have hout : ∀ c, 100 < c → listed.size = 22 → listed.getD c false = false := fun c hc h => by simp [Array.getD, h]; omega
      have r18 := HI.rs 18 _ _ 999 (by decide) (hall 18 (by decide)) rfl (hout 999 (by decide) hsz)
      have s0 : a.tmps.getD 0 undef = .pointer (some ⟨r, 0, none⟩) := HI.keep 0 (fun j _ => (by omega : 29 + j ≠ 0))
      have s29 : a.tmps.getD 29 undef = .pointer (some ⟨r, 0, none⟩) := HI.qs 0 _ (by decide) (hall 0 (by decide)) rfl
      have h62 : a.tmps.size = 50 := HI.size
      have hdf : a.defers = [] := HI.defers
      have bW : Below w.heap.size w W := HI.bel
      clear HI hall hsz hout
      obtain ⟨⟨ts⟩, df⟩ := a
      have hz : ts.length = 50 := h62
      obtain rfl : df = [] := hdf
      clear h62
      obtain ⟨u0, ts0, rfl, hz0⟩ := cons_of hz
      clear hz
      obtain ⟨u1, ts1, rfl, hz1⟩ := cons_of hz0
      clear hz0
      obtain ⟨u2, ts2, rfl, hz2⟩ := cons_of hz1
      clear hz1
      obtain ⟨u3, ts3, rfl, hz3⟩ := cons_of hz2
      clear hz2
      obtain ⟨u4, ts4, rfl, hz4⟩ := cons_of hz3
      clear hz3
      obtain ⟨u5, ts5, rfl, hz5⟩ := cons_of hz4
      clear hz4
      obtain ⟨u6, ts6, rfl, hz6⟩ := cons_of hz5
      clear hz5
      obtain ⟨u7, ts7, rfl, hz7⟩ := cons_of hz6
      clear hz6
      obtain ⟨u8, ts8, rfl, hz8⟩ := cons_of hz7
      clear hz7
      obtain ⟨u9, ts9, rfl, hz9⟩ := cons_of hz8
      clear hz8
      obtain ⟨u10, ts10, rfl, hz10⟩ := cons_of hz9
      clear hz9
      obtain ⟨u11, ts11, rfl, hz11⟩ := cons_of hz10
      clear hz10
      obtain ⟨u12, ts12, rfl, hz12⟩ := cons_of hz11
      clear hz11
      obtain ⟨u13, ts13, rfl, hz13⟩ := cons_of hz12
      clear hz12
      obtain ⟨u14, ts14, rfl, hz14⟩ := cons_of hz13
      clear hz13
      obtain ⟨u15, ts15, rfl, hz15⟩ := cons_of hz14
      clear hz14
      obtain ⟨u16, ts16, rfl, hz16⟩ := cons_of hz15
      clear hz15
      obtain ⟨u17, ts17, rfl, hz17⟩ := cons_of hz16
      clear hz16
      obtain ⟨u18, ts18, rfl, hz18⟩ := cons_of hz17
      clear hz17
      obtain ⟨u19, ts19, rfl, hz19⟩ := cons_of hz18
      clear hz18
      obtain ⟨u20, ts20, rfl, hz20⟩ := cons_of hz19
      clear hz19
      obtain ⟨u21, ts21, rfl, hz21⟩ := cons_of hz20
      clear hz20
      obtain ⟨u22, ts22, rfl, hz22⟩ := cons_of hz21
      clear hz21
      obtain ⟨u23, ts23, rfl, hz23⟩ := cons_of hz22
      clear hz22
      obtain ⟨u24, ts24, rfl, hz24⟩ := cons_of hz23
      clear hz23
      obtain ⟨u25, ts25, rfl, hz25⟩ := cons_of hz24
      clear hz24
      obtain ⟨u26, ts26, rfl, hz26⟩ := cons_of hz25
      clear hz25
      obtain ⟨u27, ts27, rfl, hz27⟩ := cons_of hz26
      clear hz26
      obtain ⟨u28, ts28, rfl, hz28⟩ := cons_of hz27
      clear hz27
      obtain ⟨u29, ts29, rfl, hz29⟩ := cons_of hz28
      clear hz28
      obtain ⟨u30, ts30, rfl, hz30⟩ := cons_of hz29
      clear hz29
      obtain ⟨u31, ts31, rfl, hz31⟩ := cons_of hz30
      clear hz30
      obtain ⟨u32, ts32, rfl, hz32⟩ := cons_of hz31
      clear hz31
      obtain ⟨u33, ts33, rfl, hz33⟩ := cons_of hz32
      clear hz32
      obtain ⟨u34, ts34, rfl, hz34⟩ := cons_of hz33
      clear hz33
      obtain ⟨u35, ts35, rfl, hz35⟩ := cons_of hz34
      clear hz34
      obtain ⟨u36, ts36, rfl, hz36⟩ := cons_of hz35
      clear hz35
      obtain ⟨u37, ts37, rfl, hz37⟩ := cons_of hz36
      clear hz36
      obtain ⟨u38, ts38, rfl, hz38⟩ := cons_of hz37
      clear hz37
      obtain ⟨u39, ts39, rfl, hz39⟩ := cons_of hz38
      clear hz38
      obtain ⟨u40, ts40, rfl, hz40⟩ := cons_of hz39
      clear hz39
      obtain ⟨u41, ts41, rfl, hz41⟩ := cons_of hz40
      clear hz40
      obtain ⟨u42, ts42, rfl, hz42⟩ := cons_of hz41
      clear hz41
      obtain ⟨u43, ts43, rfl, hz43⟩ := cons_of hz42
      clear hz42
      obtain ⟨u44, ts44, rfl, hz44⟩ := cons_of hz43
      clear hz43
      obtain ⟨u45, ts45, rfl, hz45⟩ := cons_of hz44
      clear hz44
      obtain ⟨u46, ts46, rfl, hz46⟩ := cons_of hz45
      clear hz45
      obtain ⟨u47, ts47, rfl, hz47⟩ := cons_of hz46
      clear hz46
      obtain ⟨u48, ts48, rfl, hz48⟩ := cons_of hz47
      clear hz47
      obtain ⟨u49, ts49, rfl, hz49⟩ := cons_of hz48
      clear hz48
      obtain rfl := List.length_eq_zero_iff.1 hz49
      clear hz49
      obtain rfl : u0 = .pointer (some ⟨r, 0, none⟩) := s0
      obtain rfl : u29 = .pointer (some ⟨r, 0, none⟩) := s29
      have R18 : W.ownsRow w.heap.size 3 1 u47 (insR 1099511627776 []).length (nums (insR 1099511627776 [])) := by
        have h9 : W.ownsRow w.heap.size 3 1 u47 (0 + 0 + 1 + (0 - 0)) ((([] ++ nums ([].take 0)) ++ nums [1099511627776]) ++ nums ([].drop 0)) := r18
        have he : insR 1099511627776 [] = [].take 0 ++ ([1099511627776] ++ [].drop 0) := rfl
        rw [insR_len, he, nums_app, nums_app, ← List.append_assoc]
        rw [List.nil_append] at h9
        rw [show ([] : List Int).length + 1 = 0 + 0 + 1 + (0 - 0) by rfl]
        exact h9
      clear r18
      obtain ⟨p5, c5, rfl, _, _, m5, _⟩ := num_row R18
      have b1 := HX.out.2.1.below bW
      have d1 := b1.cell 0
      have f1 := b1.free 0
      have HY := Lib.hid (And.intro R18 (And.intro m5 (And.intro b1 bW)))
      clear R18 m5 b1 bW
      simp only [List.drop_succ_cons, List.drop_zero]
      go_wp2_with fail
      refine bodyPost_end (results_none rfl _ _ _) rfl ?_
      obtain ⟨R18, m5, b1, bW⟩ := HY.out
      obtain ⟨H, h1, h2, _⟩ := HX.out
      have hr := H.lt r H.own
      have hs := bW.size
      have hW : Chg (fun i => i = r) W (W.setCell ⟨r, 0, none⟩ (.slice p5 (insR 1099511627776 []).length c5)) := (Chg.refl (fun i => i = r) W).set_ (b := r) rfl _ _
      have hC : Chg (fun i => i = r) w (W.setCell ⟨r, 0, none⟩ (.slice p5 (insR 1099511627776 []).length c5)) := (Chg.of bW).trans hW fun i hi => .inl hi
      refine ⟨rfl, fun i => T i ∨ (Value.slice p5 (insR 1099511627776 []).length c5).ownBlock = some i, ⟨⟨_, b1.set_ 0 _, owns_chg hW (owns0 R18) fun i hi c => by have := m5 i hi; omega, fun i hi => ⟨.inr hi, by have := m5 i hi; omega⟩⟩, .inl H.own, ?_, by rw [insR_len]; decide⟩, hC, ?_⟩
      · intro i hi
        have hW2 := hW.size
        rcases hi with hi | hi
        · have := H.lt i hi; omega
        · have := (R18.lt i hi).2; omega
      · intro i hi
        rcases hi with hi | hi
        · exact .inl hi
        · exact .inr (m5 i hi)

set_option maxHeartbeats 4000000 in
set_option maxRecDepth 100000 in
theorem noter_nil2 (T : Nat → Prop) (r : Nat) (n : Int) (w : World) (H : RN w T r []) (h1 : Blk w r 33 #[.slice none 0 0]) (h2 : w.ownsRow 0 3 1 (.slice none 0 0) 0 (nums [])) (n1 : ¬ n < 0) (n2 : ¬ 1099511627776 < n) :
    Calls Try.prog 28 #[.pointer (some ⟨r, 0, none⟩), .int .i64 n] w fun e w' => e = .returned (.tuple #[]) ∧ ∃ T', RN w' T' r (insR n []) ∧ Chg (fun i => i = r) w w' ∧ New w T T' := by
  have q0 := h1.cell 0
  have mixed : Try.prog.follows .mixedOrders = true := by kernel_rfl
  have k0 : ArgAt w 1 (.slice none 0 0) 0 (nums (([] : List Int).take 0)) := arg_nil
  have k1 : ArgAt w 1 (.slice none 0 0) 0 (nums (([] : List Int).drop 0)) := arg_nil
  have HX := Lib.hid (And.intro H (And.intro h1 (And.intro h2 True.intro)))
  clear h1 h2 H
  go_enter Try.func28, Try.ntmps28
  go_wp2_with fail
  go_loop [4] (fun s4 => s4 = .int .i64 0) (fun _ => 0)
  case atStart => rfl
  case round =>
    obtain rfl := hrel
    go_upto_region 7 with fail
    refine wp_region_any mixed ?_
    refine wpAny_take (i := 0) rfl (by kernel_rfl) (by kernel_rfl) (by kernel_rfl) (fun _ _ _ h => h) (.inl ⟨rfl, fun w => rfl⟩) ?_
    refine any_inv (l := _) 19 [0] (RInv w.heap.size w 3 1 _ 19 (fun i => 29 + i) (spNote r 0 0 (.slice none 0 0) (.slice none 0 0) (.slice none 0 0) [] n)) (by decide) (by kernel_rfl) (by kernel_rfl) (by kernel_rfl) (by kernel_rfl) ?_ ?_ 18 _ _ _ ((headInv_start _ 19).set (mem_of_contains (by kernel_rfl)) (by decide)) (fun i hi => by cases List.mem_singleton.1 hi; kernel_rfl) ((RInv.start _).advq (i := 0) (by decide) (by decide) (fun j k _ _ h e => h (Nat.add_left_cancel e)) (fun j hj => (by omega : 29 + j < 50)) _ rfl) (by decide +kernel)
    · intro listed a W io hi hsz _ HI hr
      have hsz' : io < listed.size := by rw [hsz]; show io < 22; omega
      have dinj : ∀ j k, j < 19 → k < 19 → j ≠ k → (fun i => 29 + i) j ≠ (fun i => 29 + i) k := fun j k _ _ h e => h (Nat.add_left_cancel e)
      have hd : ∀ j, j < 19 → (fun i => 29 + i) j < 50 := fun j hj => (by omega : 29 + j < 50)
      have e0 : a.tmps[0]?.getD undef = .pointer (some ⟨r, 0, none⟩) := raw (HI.keep 0 (fun j _ => (by omega : 29 + j ≠ 0)))
      have e1 : a.tmps[1]?.getD undef = .int .i64 n := raw (HI.keep 1 (fun j _ => (by omega : 29 + j ≠ 1)))
      have e4 : a.tmps[4]?.getD undef = .int .i64 0 := raw (HI.keep 4 (fun j _ => (by omega : 29 + j ≠ 4)))
      have c0 : W.cell? ⟨r, 0, none⟩ = some (.slice none 0 0) := (HI.bel.cell (block_lt_of_cell q0)).trans q0
      have bW : Below w.heap.size w W := HI.bel
      match io, hi with
      | 0, hi =>
        refine HI.quiet hi hsz' dinj hd rfl rfl rfl (fun K h => ?_)
        simp [go_sem, e0]
        exact h
      | 1, hi =>
        refine HI.build rfl hi hsz' dinj hd rfl rfl rfl rfl (by decide) (fun K h => ?_)
        simp [go_sem]
        exact h
      | 2, hi =>
        refine HI.quiet hi hsz' dinj hd rfl rfl rfl (fun K h => ?_)
        simp [go_sem, e0]
        exact h
      | 3, hi =>
        have d2 := raw (HI.qs 2 _ (by decide) (dep hr 2 (by kernel_rfl)) rfl)
        refine HI.quiet hi hsz' dinj hd rfl rfl rfl (fun K h => ?_)
        simp [go_sem, d2]
        exact h
      | 4, hi =>
        have d3 := raw (HI.qs 3 _ (by decide) (dep hr 3 (by kernel_rfl)) rfl)
        refine HI.quiet hi hsz' dinj hd rfl rfl rfl (fun K h => ?_)
        simp [go_sem, d3]
        exact h
      | 5, hi =>
        have d4 := raw (HI.qs 4 _ (by decide) (dep hr 4 (by kernel_rfl)) rfl)
        refine HI.quiet hi hsz' dinj hd rfl rfl rfl (fun K h => ?_)
        simp [go_sem, d4, c0]
        exact h
      | 6, hi =>
        refine HI.quiet hi hsz' dinj hd rfl rfl rfl (fun K h => ?_)
        simp [go_sem, e4]
        exact h
      | 7, hi =>
        have d5 := raw (HI.qs 5 _ (by decide) (dep hr 5 (by kernel_rfl)) rfl)
        have d6 := raw (HI.qs 6 _ (by decide) (dep hr 6 (by kernel_rfl)) rfl)
        refine HI.quiet hi hsz' dinj hd rfl rfl rfl (fun K h => ?_)
        simp [go_sem, d5, d6]
        exact h
      | 8, hi =>
        have hun := getD_both (mem_ready.1 hr).1
        have hu := HI.qs 7 _ (by decide) (dep hr 7 (by kernel_rfl)) rfl
        refine HI.append rfl hi hsz' dinj hd (j1 := 1) (by decide) (dep hr 1 (by kernel_rfl)) rfl hun (by decide) rfl rfl (.tmp 36) _ _ rfl rfl _ hu rfl (fun v hv => app_i64' _ _ v _ _ hv _ _ _ (k0.below bW) (by omega) (by have := HI.bel.size; exact this))
      | 9, hi =>
        refine HI.quiet hi hsz' dinj hd rfl rfl rfl (fun K h => ?_)
        simp [go_sem, e1]
        exact h
      | 10, hi =>
        have d9 := raw (HI.qs 9 _ (by decide) (dep hr 9 (by kernel_rfl)) rfl)
        refine HI.build rfl hi hsz' dinj hd rfl rfl rfl rfl (by decide) (fun K h => ?_)
        simp [go_sem, d9]
        exact h
      | 11, hi =>
        have hun := getD_both (mem_ready.1 hr).1
        have hrow := HI.rs 10 1 _ 11 (by decide) (dep hr 10 (by kernel_rfl)) rfl hun
        refine HI.append rfl hi hsz' dinj hd (j1 := 8) (by decide) (dep hr 8 (by kernel_rfl)) rfl hun (by decide) rfl rfl (.tmp 39) _ _ rfl rfl _ rfl rfl (fun v hv => app_i64' _ _ v _ _ hv _ 1 _ (ArgAt.of_row hrow) (by omega) (by have := HI.bel.size; exact this))
      | 12, hi =>
        refine HI.quiet hi hsz' dinj hd rfl rfl rfl (fun K h => ?_)
        simp [go_sem, e0]
        exact h
      | 13, hi =>
        have d12 := raw (HI.qs 12 _ (by decide) (dep hr 12 (by kernel_rfl)) rfl)
        refine HI.quiet hi hsz' dinj hd rfl rfl rfl (fun K h => ?_)
        simp [go_sem, d12]
        exact h
      | 14, hi =>
        have d13 := raw (HI.qs 13 _ (by decide) (dep hr 13 (by kernel_rfl)) rfl)
        refine HI.quiet hi hsz' dinj hd rfl rfl rfl (fun K h => ?_)
        simp [go_sem, d13]
        exact h
      | 15, hi =>
        have d14 := raw (HI.qs 14 _ (by decide) (dep hr 14 (by kernel_rfl)) rfl)
        refine HI.quiet hi hsz' dinj hd rfl rfl rfl (fun K h => ?_)
        simp [go_sem, d14, c0]
        exact h
      | 16, hi =>
        refine HI.quiet hi hsz' dinj hd rfl rfl rfl (fun K h => ?_)
        simp [go_sem, e4]
        exact h
      | 17, hi =>
        have d15 := raw (HI.qs 15 _ (by decide) (dep hr 15 (by kernel_rfl)) rfl)
        have d16 := raw (HI.qs 16 _ (by decide) (dep hr 16 (by kernel_rfl)) rfl)
        refine HI.quiet hi hsz' dinj hd rfl rfl rfl (fun K h => ?_)
        simp [go_sem, d15, d16]
        exact h
      | 18, hi =>
        have hun := getD_both (mem_ready.1 hr).1
        have hu := HI.qs 17 _ (by decide) (dep hr 17 (by kernel_rfl)) rfl
        refine HI.append rfl hi hsz' dinj hd (j1 := 11) (by decide) (dep hr 11 (by kernel_rfl)) rfl hun (by decide) rfl rfl (.tmp 46) _ _ rfl rfl _ hu rfl (fun v hv => app_i64' _ _ v _ _ hv _ _ _ (k1.below bW) (by omega) (by have := HI.bel.size; exact this))
      | kk + 19, hi => exact absurd hi (by omega)
    · intro listed a W hall hsz HI
      have hout : ∀ c, 100 < c → listed.size = 22 → listed.getD c false = false := fun c hc h => by simp [Array.getD, h]; omega
      have r18 := HI.rs 18 _ _ 999 (by decide) (hall 18 (by decide)) rfl (hout 999 (by decide) hsz)
      have s0 : a.tmps.getD 0 undef = .pointer (some ⟨r, 0, none⟩) := HI.keep 0 (fun j _ => (by omega : 29 + j ≠ 0))
      have s29 : a.tmps.getD 29 undef = .pointer (some ⟨r, 0, none⟩) := HI.qs 0 _ (by decide) (hall 0 (by decide)) rfl
      have h62 : a.tmps.size = 50 := HI.size
      have hdf : a.defers = [] := HI.defers
      have bW : Below w.heap.size w W := HI.bel
      clear HI hall hsz hout
      obtain ⟨⟨ts⟩, df⟩ := a
      have hz : ts.length = 50 := h62
      obtain rfl : df = [] := hdf
      clear h62
      obtain ⟨u0, ts0, rfl, hz0⟩ := cons_of hz
      clear hz
      obtain ⟨u1, ts1, rfl, hz1⟩ := cons_of hz0
      clear hz0
      obtain ⟨u2, ts2, rfl, hz2⟩ := cons_of hz1
      clear hz1
      obtain ⟨u3, ts3, rfl, hz3⟩ := cons_of hz2
      clear hz2
      obtain ⟨u4, ts4, rfl, hz4⟩ := cons_of hz3
      clear hz3
      obtain ⟨u5, ts5, rfl, hz5⟩ := cons_of hz4
      clear hz4
      obtain ⟨u6, ts6, rfl, hz6⟩ := cons_of hz5
      clear hz5
      obtain ⟨u7, ts7, rfl, hz7⟩ := cons_of hz6
      clear hz6
      obtain ⟨u8, ts8, rfl, hz8⟩ := cons_of hz7
      clear hz7
      obtain ⟨u9, ts9, rfl, hz9⟩ := cons_of hz8
      clear hz8
      obtain ⟨u10, ts10, rfl, hz10⟩ := cons_of hz9
      clear hz9
      obtain ⟨u11, ts11, rfl, hz11⟩ := cons_of hz10
      clear hz10
      obtain ⟨u12, ts12, rfl, hz12⟩ := cons_of hz11
      clear hz11
      obtain ⟨u13, ts13, rfl, hz13⟩ := cons_of hz12
      clear hz12
      obtain ⟨u14, ts14, rfl, hz14⟩ := cons_of hz13
      clear hz13
      obtain ⟨u15, ts15, rfl, hz15⟩ := cons_of hz14
      clear hz14
      obtain ⟨u16, ts16, rfl, hz16⟩ := cons_of hz15
      clear hz15
      obtain ⟨u17, ts17, rfl, hz17⟩ := cons_of hz16
      clear hz16
      obtain ⟨u18, ts18, rfl, hz18⟩ := cons_of hz17
      clear hz17
      obtain ⟨u19, ts19, rfl, hz19⟩ := cons_of hz18
      clear hz18
      obtain ⟨u20, ts20, rfl, hz20⟩ := cons_of hz19
      clear hz19
      obtain ⟨u21, ts21, rfl, hz21⟩ := cons_of hz20
      clear hz20
      obtain ⟨u22, ts22, rfl, hz22⟩ := cons_of hz21
      clear hz21
      obtain ⟨u23, ts23, rfl, hz23⟩ := cons_of hz22
      clear hz22
      obtain ⟨u24, ts24, rfl, hz24⟩ := cons_of hz23
      clear hz23
      obtain ⟨u25, ts25, rfl, hz25⟩ := cons_of hz24
      clear hz24
      obtain ⟨u26, ts26, rfl, hz26⟩ := cons_of hz25
      clear hz25
      obtain ⟨u27, ts27, rfl, hz27⟩ := cons_of hz26
      clear hz26
      obtain ⟨u28, ts28, rfl, hz28⟩ := cons_of hz27
      clear hz27
      obtain ⟨u29, ts29, rfl, hz29⟩ := cons_of hz28
      clear hz28
      obtain ⟨u30, ts30, rfl, hz30⟩ := cons_of hz29
      clear hz29
      obtain ⟨u31, ts31, rfl, hz31⟩ := cons_of hz30
      clear hz30
      obtain ⟨u32, ts32, rfl, hz32⟩ := cons_of hz31
      clear hz31
      obtain ⟨u33, ts33, rfl, hz33⟩ := cons_of hz32
      clear hz32
      obtain ⟨u34, ts34, rfl, hz34⟩ := cons_of hz33
      clear hz33
      obtain ⟨u35, ts35, rfl, hz35⟩ := cons_of hz34
      clear hz34
      obtain ⟨u36, ts36, rfl, hz36⟩ := cons_of hz35
      clear hz35
      obtain ⟨u37, ts37, rfl, hz37⟩ := cons_of hz36
      clear hz36
      obtain ⟨u38, ts38, rfl, hz38⟩ := cons_of hz37
      clear hz37
      obtain ⟨u39, ts39, rfl, hz39⟩ := cons_of hz38
      clear hz38
      obtain ⟨u40, ts40, rfl, hz40⟩ := cons_of hz39
      clear hz39
      obtain ⟨u41, ts41, rfl, hz41⟩ := cons_of hz40
      clear hz40
      obtain ⟨u42, ts42, rfl, hz42⟩ := cons_of hz41
      clear hz41
      obtain ⟨u43, ts43, rfl, hz43⟩ := cons_of hz42
      clear hz42
      obtain ⟨u44, ts44, rfl, hz44⟩ := cons_of hz43
      clear hz43
      obtain ⟨u45, ts45, rfl, hz45⟩ := cons_of hz44
      clear hz44
      obtain ⟨u46, ts46, rfl, hz46⟩ := cons_of hz45
      clear hz45
      obtain ⟨u47, ts47, rfl, hz47⟩ := cons_of hz46
      clear hz46
      obtain ⟨u48, ts48, rfl, hz48⟩ := cons_of hz47
      clear hz47
      obtain ⟨u49, ts49, rfl, hz49⟩ := cons_of hz48
      clear hz48
      obtain rfl := List.length_eq_zero_iff.1 hz49
      clear hz49
      obtain rfl : u0 = .pointer (some ⟨r, 0, none⟩) := s0
      obtain rfl : u29 = .pointer (some ⟨r, 0, none⟩) := s29
      have R18 : W.ownsRow w.heap.size 3 1 u47 (insR n []).length (nums (insR n [])) := by
        have h9 : W.ownsRow w.heap.size 3 1 u47 (0 + 0 + 1 + (0 - 0)) ((([] ++ nums ([].take 0)) ++ nums [n]) ++ nums ([].drop 0)) := r18
        have he : insR n [] = [].take 0 ++ ([n] ++ [].drop 0) := rfl
        rw [insR_len, he, nums_app, nums_app, ← List.append_assoc]
        rw [List.nil_append] at h9
        rw [show ([] : List Int).length + 1 = 0 + 0 + 1 + (0 - 0) by rfl]
        exact h9
      clear r18
      obtain ⟨p5, c5, rfl, _, _, m5, _⟩ := num_row R18
      have b1 := HX.out.2.1.below bW
      have d1 := b1.cell 0
      have f1 := b1.free 0
      have HY := Lib.hid (And.intro R18 (And.intro m5 (And.intro b1 bW)))
      clear R18 m5 b1 bW
      simp only [List.drop_succ_cons, List.drop_zero]
      go_wp2_with fail
      refine bodyPost_end (results_none rfl _ _ _) rfl ?_
      obtain ⟨R18, m5, b1, bW⟩ := HY.out
      obtain ⟨H, h1, h2, _⟩ := HX.out
      have hr := H.lt r H.own
      have hs := bW.size
      have hW : Chg (fun i => i = r) W (W.setCell ⟨r, 0, none⟩ (.slice p5 (insR n []).length c5)) := (Chg.refl (fun i => i = r) W).set_ (b := r) rfl _ _
      have hC : Chg (fun i => i = r) w (W.setCell ⟨r, 0, none⟩ (.slice p5 (insR n []).length c5)) := (Chg.of bW).trans hW fun i hi => .inl hi
      refine ⟨rfl, fun i => T i ∨ (Value.slice p5 (insR n []).length c5).ownBlock = some i, ⟨⟨_, b1.set_ 0 _, owns_chg hW (owns0 R18) fun i hi c => by have := m5 i hi; omega, fun i hi => ⟨.inr hi, by have := m5 i hi; omega⟩⟩, .inl H.own, ?_, by rw [insR_len]; decide⟩, hC, ?_⟩
      · intro i hi
        have hW2 := hW.size
        rcases hi with hi | hi
        · have := H.lt i hi; omega
        · have := (R18.lt i hi).2; omega
      · intro i hi
        rcases hi with hi | hi
        · exact .inl hi
        · exact .inr (m5 i hi)

set_option maxHeartbeats 4000000 in
set_option maxRecDepth 100000 in
theorem noter_row0 (T : Nat → Prop) (r g c : Nat) (L : List Int) (n : Int) (w : World) (H : RN w T r L) (h1 : Blk w r 33 #[.slice (some ⟨g, 0, none⟩) L.length c]) (h2 : w.ownsRow 0 3 1 (.slice (some ⟨g, 0, none⟩) L.length c) L.length (nums L)) (hmc : L.length ≤ c) (hl : L.length < 1000) (n1 : n < 0) :
    Calls Try.prog 28 #[.pointer (some ⟨r, 0, none⟩), .int .i64 n] w fun e w' => e = .returned (.tuple #[]) ∧ ∃ T', RN w' T' r (insR 0 L) ∧ Chg (fun i => i = r) w w' ∧ New w T T' := by
  have q0 := h1.cell 0
  have mixed : Try.prog.follows .mixedOrders = true := by kernel_rfl
  have hR : ∀ i (hi : i < L.length), w.cell? ((⟨g, 0, none⟩ : Addr).add i) = some (.int .i64 L[i]) := fun i hi => by
    obtain ⟨p, c', e1, _, _, _, hR⟩ := num_row h2
    injection e1 with e1 _ _
    obtain ⟨a, e2, h3⟩ := hR i hi
    rw [e2] at e1
    injection e1 with e1
    rw [e1]
    exact h3
  have HZ := Lib.hid (And.intro H (And.intro h1 (And.intro h2 hR)))
  clear h1 h2 H hR
  go_enter Try.func28, Try.ntmps28
  go_wp2_with fail
  go_loop [4] (fun s4 => ∃ k : Nat, k ≤ L.length ∧ s4 = .int .i64 k ∧ ∀ t (h : t < L.length), t < k → L[t] ≤ 0) (fun s4 => L.length - (RowKit.intOf s4).toNat)
  case atStart => exact ⟨0, Nat.zero_le _, rfl, fun t _ ht => absurd ht (by omega)⟩
  case round =>
    obtain ⟨k, hk, rfl, hlo⟩ := hrel
    have hw : IntKind.i64.wrap ((k : Int) + 1) = (k : Int) + 1 := by rw [IntKind.wrap_i64]; omega
    have key : (k < L.length ∧ ∃ y, w.cell? ⟨g, k, none⟩ = some (.int .i64 y) ∧ y ≤ 0 ∧ ∀ h : k < L.length, L[k] = y) ∨ (¬ k < L.length ∨ ∃ y, k < L.length ∧ w.cell? ⟨g, k, none⟩ = some (.int .i64 y) ∧ ¬ y ≤ 0 ∧ ∀ h : k < L.length, L[k] = y) := by
      by_cases hlt : k < L.length
      · have hc := HZ.out.2.2.2 k hlt
        rw [Addr.add_lit, Nat.zero_add] at hc
        by_cases hy : L[k] ≤ 0
        · exact .inl ⟨hlt, _, hc, hy, fun _ => rfl⟩
        · exact .inr (.inr ⟨_, hlt, hc, hy, fun _ => rfl⟩)
      · exact .inr (.inl hlt)
    rcases key with ⟨hlt, y, hc, hy, e⟩ | hstop
    · have hlt1 : (k : Int) < L.length := by omega
      have HL := Lib.hid (And.intro hlo e)
      clear hlo e
      go_wp2_with fail
      go_round
      case rel =>
        refine ⟨k + 1, by omega, rfl, fun t ht htk => ?_⟩
        rcases Nat.lt_or_eq_of_le (Nat.le_of_lt_succ htk) with c | rfl
        · exact HL.out.1 t ht c
        · rw [HL.out.2]; exact hy
      case measure => simp only [RowKit.intOf]; omega
    · have he : insR 0 L = L.take k ++ ([0] ++ L.drop k) := insR_at hk hlo fun h c => by
        rcases hstop with h1 | ⟨y, _, _, hy, e⟩
        · exact h1 h
        · rw [e h] at c; exact hy c
      have k0 := num_take HZ.out.2.2.1 hk
      have k1 := num_drop HZ.out.2.2.1 hk hmc
      have HX := Lib.hid (And.intro HZ.out.1 (And.intro HZ.out.2.1 (And.intro HZ.out.2.2.1 he)))
      clear he hlo
      have hpc : k ≤ c := by omega
      have hp0 : (0 : Int) ≤ (k : Int) := by omega
      have hpm : (k : Int) ≤ L.length := by omega
      rcases hstop with hlt | ⟨y, hlt, hc, hy, e⟩
      all_goals
        first | (have hlt1 : ¬ (k : Int) < L.length := by omega) | (have hlt1 : (k : Int) < L.length := by omega)
        try clear e
        go_upto_region 7 with fail
        refine wp_region_any mixed ?_
        refine wpAny_take (i := 0) rfl (by kernel_rfl) (by kernel_rfl) (by kernel_rfl) (fun _ _ _ h => h) (.inl ⟨rfl, fun w => rfl⟩) ?_
        refine any_inv (l := _) 19 [0] (RInv w.heap.size w 3 1 _ 19 (fun i => 29 + i) (spNote r L.length k (.slice (some ⟨g, 0, none⟩) L.length c) (.slice (some ⟨g, 0, none⟩) k c) (.slice (if c = k then some ⟨g, 0, none⟩ else some ⟨g, k, none⟩) (L.length - k) (c - k)) L 0)) (by decide) (by kernel_rfl) (by kernel_rfl) (by kernel_rfl) (by kernel_rfl) ?_ ?_ 18 _ _ _ ((headInv_start _ 19).set (mem_of_contains (by kernel_rfl)) (by decide)) (fun i hi => by cases List.mem_singleton.1 hi; kernel_rfl) ((RInv.start _).advq (i := 0) (by decide) (by decide) (fun j k _ _ h e => h (Nat.add_left_cancel e)) (fun j hj => (by omega : 29 + j < 50)) _ rfl) (by decide +kernel)
        · intro listed a W io hi hsz _ HI hr
          have hsz' : io < listed.size := by rw [hsz]; show io < 22; omega
          have dinj : ∀ j k, j < 19 → k < 19 → j ≠ k → (fun i => 29 + i) j ≠ (fun i => 29 + i) k := fun j k _ _ h e => h (Nat.add_left_cancel e)
          have hd : ∀ j, j < 19 → (fun i => 29 + i) j < 50 := fun j hj => (by omega : 29 + j < 50)
          have e0 : a.tmps[0]?.getD undef = .pointer (some ⟨r, 0, none⟩) := raw (HI.keep 0 (fun j _ => (by omega : 29 + j ≠ 0)))
          have e1 : a.tmps[1]?.getD undef = .int .i64 0 := raw (HI.keep 1 (fun j _ => (by omega : 29 + j ≠ 1)))
          have e4 : a.tmps[4]?.getD undef = .int .i64 k := raw (HI.keep 4 (fun j _ => (by omega : 29 + j ≠ 4)))
          have c0 : W.cell? ⟨r, 0, none⟩ = some (.slice (some ⟨g, 0, none⟩) L.length c) := (HI.bel.cell (block_lt_of_cell q0)).trans q0
          have bW : Below w.heap.size w W := HI.bel
          match io, hi with
          | 0, hi =>
            refine HI.quiet hi hsz' dinj hd rfl rfl rfl (fun K h => ?_)
            simp [go_sem, e0]
            exact h
          | 1, hi =>
            refine HI.build rfl hi hsz' dinj hd rfl rfl rfl rfl (by decide) (fun K h => ?_)
            simp [go_sem]
            exact h
          | 2, hi =>
            refine HI.quiet hi hsz' dinj hd rfl rfl rfl (fun K h => ?_)
            simp [go_sem, e0]
            exact h
          | 3, hi =>
            have d2 := raw (HI.qs 2 _ (by decide) (dep hr 2 (by kernel_rfl)) rfl)
            refine HI.quiet hi hsz' dinj hd rfl rfl rfl (fun K h => ?_)
            simp [go_sem, d2]
            exact h
          | 4, hi =>
            have d3 := raw (HI.qs 3 _ (by decide) (dep hr 3 (by kernel_rfl)) rfl)
            refine HI.quiet hi hsz' dinj hd rfl rfl rfl (fun K h => ?_)
            simp [go_sem, d3]
            exact h
          | 5, hi =>
            have d4 := raw (HI.qs 4 _ (by decide) (dep hr 4 (by kernel_rfl)) rfl)
            refine HI.quiet hi hsz' dinj hd rfl rfl rfl (fun K h => ?_)
            simp [go_sem, d4, c0]
            exact h
          | 6, hi =>
            refine HI.quiet hi hsz' dinj hd rfl rfl rfl (fun K h => ?_)
            simp [go_sem, e4]
            exact h
          | 7, hi =>
            have d5 := raw (HI.qs 5 _ (by decide) (dep hr 5 (by kernel_rfl)) rfl)
            have d6 := raw (HI.qs 6 _ (by decide) (dep hr 6 (by kernel_rfl)) rfl)
            refine HI.quiet hi hsz' dinj hd rfl rfl rfl (fun K h => ?_)
            simp [go_sem, d5, d6, hpc, hp0]
            exact h
          | 8, hi =>
            have hun := getD_both (mem_ready.1 hr).1
            have hu := HI.qs 7 _ (by decide) (dep hr 7 (by kernel_rfl)) rfl
            refine HI.append rfl hi hsz' dinj hd (j1 := 1) (by decide) (dep hr 1 (by kernel_rfl)) rfl hun (by decide) rfl rfl (.tmp 36) _ _ rfl rfl _ hu rfl (fun v hv => app_i64' _ _ v _ _ hv _ _ _ (k0.below bW) (by omega) (by have := HI.bel.size; exact this))
          | 9, hi =>
            refine HI.quiet hi hsz' dinj hd rfl rfl rfl (fun K h => ?_)
            simp [go_sem, e1]
            exact h
          | 10, hi =>
            have d9 := raw (HI.qs 9 _ (by decide) (dep hr 9 (by kernel_rfl)) rfl)
            refine HI.build rfl hi hsz' dinj hd rfl rfl rfl rfl (by decide) (fun K h => ?_)
            simp [go_sem, d9]
            exact h
          | 11, hi =>
            have hun := getD_both (mem_ready.1 hr).1
            have hrow := HI.rs 10 1 _ 11 (by decide) (dep hr 10 (by kernel_rfl)) rfl hun
            refine HI.append rfl hi hsz' dinj hd (j1 := 8) (by decide) (dep hr 8 (by kernel_rfl)) rfl hun (by decide) rfl rfl (.tmp 39) _ _ rfl rfl _ rfl rfl (fun v hv => app_i64' _ _ v _ _ hv _ 1 _ (ArgAt.of_row hrow) (by omega) (by have := HI.bel.size; exact this))
          | 12, hi =>
            refine HI.quiet hi hsz' dinj hd rfl rfl rfl (fun K h => ?_)
            simp [go_sem, e0]
            exact h
          | 13, hi =>
            have d12 := raw (HI.qs 12 _ (by decide) (dep hr 12 (by kernel_rfl)) rfl)
            refine HI.quiet hi hsz' dinj hd rfl rfl rfl (fun K h => ?_)
            simp [go_sem, d12]
            exact h
          | 14, hi =>
            have d13 := raw (HI.qs 13 _ (by decide) (dep hr 13 (by kernel_rfl)) rfl)
            refine HI.quiet hi hsz' dinj hd rfl rfl rfl (fun K h => ?_)
            simp [go_sem, d13]
            exact h
          | 15, hi =>
            have d14 := raw (HI.qs 14 _ (by decide) (dep hr 14 (by kernel_rfl)) rfl)
            refine HI.quiet hi hsz' dinj hd rfl rfl rfl (fun K h => ?_)
            simp [go_sem, d14, c0]
            exact h
          | 16, hi =>
            refine HI.quiet hi hsz' dinj hd rfl rfl rfl (fun K h => ?_)
            simp [go_sem, e4]
            exact h
          | 17, hi =>
            have d15 := raw (HI.qs 15 _ (by decide) (dep hr 15 (by kernel_rfl)) rfl)
            have d16 := raw (HI.qs 16 _ (by decide) (dep hr 16 (by kernel_rfl)) rfl)
            refine HI.quiet hi hsz' dinj hd rfl rfl rfl (fun K h => ?_)
            simp [go_sem, d15, d16, hpm, hp0]
            exact h
          | 18, hi =>
            have hun := getD_both (mem_ready.1 hr).1
            have hu := HI.qs 17 _ (by decide) (dep hr 17 (by kernel_rfl)) rfl
            refine HI.append rfl hi hsz' dinj hd (j1 := 11) (by decide) (dep hr 11 (by kernel_rfl)) rfl hun (by decide) rfl rfl (.tmp 46) _ _ rfl rfl _ hu rfl (fun v hv => app_i64' _ _ v _ _ hv _ _ _ (k1.below bW) (by omega) (by have := HI.bel.size; exact this))
          | kk + 19, hi => exact absurd hi (by omega)
        · intro listed a W hall hsz HI
          have hout : ∀ c, 100 < c → listed.size = 22 → listed.getD c false = false := fun c hc h => by simp [Array.getD, h]; omega
          have r18 := HI.rs 18 _ _ 999 (by decide) (hall 18 (by decide)) rfl (hout 999 (by decide) hsz)
          have s0 : a.tmps.getD 0 undef = .pointer (some ⟨r, 0, none⟩) := HI.keep 0 (fun j _ => (by omega : 29 + j ≠ 0))
          have s29 : a.tmps.getD 29 undef = .pointer (some ⟨r, 0, none⟩) := HI.qs 0 _ (by decide) (hall 0 (by decide)) rfl
          have h62 : a.tmps.size = 50 := HI.size
          have hdf : a.defers = [] := HI.defers
          have bW : Below w.heap.size w W := HI.bel
          clear HI hall hsz hout
          obtain ⟨⟨ts⟩, df⟩ := a
          have hz : ts.length = 50 := h62
          obtain rfl : df = [] := hdf
          clear h62
          obtain ⟨u0, ts0, rfl, hz0⟩ := cons_of hz
          clear hz
          obtain ⟨u1, ts1, rfl, hz1⟩ := cons_of hz0
          clear hz0
          obtain ⟨u2, ts2, rfl, hz2⟩ := cons_of hz1
          clear hz1
          obtain ⟨u3, ts3, rfl, hz3⟩ := cons_of hz2
          clear hz2
          obtain ⟨u4, ts4, rfl, hz4⟩ := cons_of hz3
          clear hz3
          obtain ⟨u5, ts5, rfl, hz5⟩ := cons_of hz4
          clear hz4
          obtain ⟨u6, ts6, rfl, hz6⟩ := cons_of hz5
          clear hz5
          obtain ⟨u7, ts7, rfl, hz7⟩ := cons_of hz6
          clear hz6
          obtain ⟨u8, ts8, rfl, hz8⟩ := cons_of hz7
          clear hz7
          obtain ⟨u9, ts9, rfl, hz9⟩ := cons_of hz8
          clear hz8
          obtain ⟨u10, ts10, rfl, hz10⟩ := cons_of hz9
          clear hz9
          obtain ⟨u11, ts11, rfl, hz11⟩ := cons_of hz10
          clear hz10
          obtain ⟨u12, ts12, rfl, hz12⟩ := cons_of hz11
          clear hz11
          obtain ⟨u13, ts13, rfl, hz13⟩ := cons_of hz12
          clear hz12
          obtain ⟨u14, ts14, rfl, hz14⟩ := cons_of hz13
          clear hz13
          obtain ⟨u15, ts15, rfl, hz15⟩ := cons_of hz14
          clear hz14
          obtain ⟨u16, ts16, rfl, hz16⟩ := cons_of hz15
          clear hz15
          obtain ⟨u17, ts17, rfl, hz17⟩ := cons_of hz16
          clear hz16
          obtain ⟨u18, ts18, rfl, hz18⟩ := cons_of hz17
          clear hz17
          obtain ⟨u19, ts19, rfl, hz19⟩ := cons_of hz18
          clear hz18
          obtain ⟨u20, ts20, rfl, hz20⟩ := cons_of hz19
          clear hz19
          obtain ⟨u21, ts21, rfl, hz21⟩ := cons_of hz20
          clear hz20
          obtain ⟨u22, ts22, rfl, hz22⟩ := cons_of hz21
          clear hz21
          obtain ⟨u23, ts23, rfl, hz23⟩ := cons_of hz22
          clear hz22
          obtain ⟨u24, ts24, rfl, hz24⟩ := cons_of hz23
          clear hz23
          obtain ⟨u25, ts25, rfl, hz25⟩ := cons_of hz24
          clear hz24
          obtain ⟨u26, ts26, rfl, hz26⟩ := cons_of hz25
          clear hz25
          obtain ⟨u27, ts27, rfl, hz27⟩ := cons_of hz26
          clear hz26
          obtain ⟨u28, ts28, rfl, hz28⟩ := cons_of hz27
          clear hz27
          obtain ⟨u29, ts29, rfl, hz29⟩ := cons_of hz28
          clear hz28
          obtain ⟨u30, ts30, rfl, hz30⟩ := cons_of hz29
          clear hz29
          obtain ⟨u31, ts31, rfl, hz31⟩ := cons_of hz30
          clear hz30
          obtain ⟨u32, ts32, rfl, hz32⟩ := cons_of hz31
          clear hz31
          obtain ⟨u33, ts33, rfl, hz33⟩ := cons_of hz32
          clear hz32
          obtain ⟨u34, ts34, rfl, hz34⟩ := cons_of hz33
          clear hz33
          obtain ⟨u35, ts35, rfl, hz35⟩ := cons_of hz34
          clear hz34
          obtain ⟨u36, ts36, rfl, hz36⟩ := cons_of hz35
          clear hz35
          obtain ⟨u37, ts37, rfl, hz37⟩ := cons_of hz36
          clear hz36
          obtain ⟨u38, ts38, rfl, hz38⟩ := cons_of hz37
          clear hz37
          obtain ⟨u39, ts39, rfl, hz39⟩ := cons_of hz38
          clear hz38
          obtain ⟨u40, ts40, rfl, hz40⟩ := cons_of hz39
          clear hz39
          obtain ⟨u41, ts41, rfl, hz41⟩ := cons_of hz40
          clear hz40
          obtain ⟨u42, ts42, rfl, hz42⟩ := cons_of hz41
          clear hz41
          obtain ⟨u43, ts43, rfl, hz43⟩ := cons_of hz42
          clear hz42
          obtain ⟨u44, ts44, rfl, hz44⟩ := cons_of hz43
          clear hz43
          obtain ⟨u45, ts45, rfl, hz45⟩ := cons_of hz44
          clear hz44
          obtain ⟨u46, ts46, rfl, hz46⟩ := cons_of hz45
          clear hz45
          obtain ⟨u47, ts47, rfl, hz47⟩ := cons_of hz46
          clear hz46
          obtain ⟨u48, ts48, rfl, hz48⟩ := cons_of hz47
          clear hz47
          obtain ⟨u49, ts49, rfl, hz49⟩ := cons_of hz48
          clear hz48
          obtain rfl := List.length_eq_zero_iff.1 hz49
          clear hz49
          obtain rfl : u0 = .pointer (some ⟨r, 0, none⟩) := s0
          obtain rfl : u29 = .pointer (some ⟨r, 0, none⟩) := s29
          have R18 : W.ownsRow w.heap.size 3 1 u47 (insR 0 L).length (nums (insR 0 L)) := by
            have h9 : W.ownsRow w.heap.size 3 1 u47 (0 + k + 1 + (L.length - k)) ((([] ++ nums (L.take k)) ++ nums [0]) ++ nums (L.drop k)) := r18
            have he : insR 0 L = L.take k ++ ([0] ++ L.drop k) := HX.out.2.2.2
            rw [insR_len, he, nums_app, nums_app, ← List.append_assoc]
            rw [List.nil_append] at h9
            rw [show L.length + 1 = 0 + k + 1 + (L.length - k) by omega]
            exact h9
          clear r18
          obtain ⟨p5, c5, rfl, _, _, m5, _⟩ := num_row R18
          have b1 := HX.out.2.1.below bW
          have d1 := b1.cell 0
          have f1 := b1.free 0
          have HY := Lib.hid (And.intro R18 (And.intro m5 (And.intro b1 bW)))
          clear R18 m5 b1 bW
          simp only [List.drop_succ_cons, List.drop_zero]
          go_wp2_with fail
          refine bodyPost_end (results_none rfl _ _ _) rfl ?_
          obtain ⟨R18, m5, b1, bW⟩ := HY.out
          obtain ⟨H, h1, h2, _⟩ := HX.out
          have hr := H.lt r H.own
          have hs := bW.size
          have hW : Chg (fun i => i = r) W (W.setCell ⟨r, 0, none⟩ (.slice p5 (insR 0 L).length c5)) := (Chg.refl (fun i => i = r) W).set_ (b := r) rfl _ _
          have hC : Chg (fun i => i = r) w (W.setCell ⟨r, 0, none⟩ (.slice p5 (insR 0 L).length c5)) := (Chg.of bW).trans hW fun i hi => .inl hi
          refine ⟨rfl, fun i => T i ∨ (Value.slice p5 (insR 0 L).length c5).ownBlock = some i, ⟨⟨_, b1.set_ 0 _, owns_chg hW (owns0 R18) fun i hi c => by have := m5 i hi; omega, fun i hi => ⟨.inr hi, by have := m5 i hi; omega⟩⟩, .inl H.own, ?_, by have := insR_len 0 L; omega⟩, hC, ?_⟩
          · intro i hi
            have hW2 := hW.size
            rcases hi with hi | hi
            · have := H.lt i hi; omega
            · have := (R18.lt i hi).2; omega
          · intro i hi
            rcases hi with hi | hi
            · exact .inl hi
            · exact .inr (m5 i hi)

set_option maxHeartbeats 4000000 in
set_option maxRecDepth 100000 in
theorem noter_row1 (T : Nat → Prop) (r g c : Nat) (L : List Int) (n : Int) (w : World) (H : RN w T r L) (h1 : Blk w r 33 #[.slice (some ⟨g, 0, none⟩) L.length c]) (h2 : w.ownsRow 0 3 1 (.slice (some ⟨g, 0, none⟩) L.length c) L.length (nums L)) (hmc : L.length ≤ c) (hl : L.length < 1000) (n1 : ¬ n < 0) (n2 : 1099511627776 < n) :
    Calls Try.prog 28 #[.pointer (some ⟨r, 0, none⟩), .int .i64 n] w fun e w' => e = .returned (.tuple #[]) ∧ ∃ T', RN w' T' r (insR 1099511627776 L) ∧ Chg (fun i => i = r) w w' ∧ New w T T' := by
  have q0 := h1.cell 0
  have mixed : Try.prog.follows .mixedOrders = true := by kernel_rfl
  have hR : ∀ i (hi : i < L.length), w.cell? ((⟨g, 0, none⟩ : Addr).add i) = some (.int .i64 L[i]) := fun i hi => by
    obtain ⟨p, c', e1, _, _, _, hR⟩ := num_row h2
    injection e1 with e1 _ _
    obtain ⟨a, e2, h3⟩ := hR i hi
    rw [e2] at e1
    injection e1 with e1
    rw [e1]
    exact h3
  have HZ := Lib.hid (And.intro H (And.intro h1 (And.intro h2 hR)))
  clear h1 h2 H hR
  go_enter Try.func28, Try.ntmps28
  go_wp2_with fail
  go_loop [4] (fun s4 => ∃ k : Nat, k ≤ L.length ∧ s4 = .int .i64 k ∧ ∀ t (h : t < L.length), t < k → L[t] ≤ 1099511627776) (fun s4 => L.length - (RowKit.intOf s4).toNat)
  case atStart => exact ⟨0, Nat.zero_le _, rfl, fun t _ ht => absurd ht (by omega)⟩
  case round =>
    obtain ⟨k, hk, rfl, hlo⟩ := hrel
    have hw : IntKind.i64.wrap ((k : Int) + 1) = (k : Int) + 1 := by rw [IntKind.wrap_i64]; omega
    have key : (k < L.length ∧ ∃ y, w.cell? ⟨g, k, none⟩ = some (.int .i64 y) ∧ y ≤ 1099511627776 ∧ ∀ h : k < L.length, L[k] = y) ∨ (¬ k < L.length ∨ ∃ y, k < L.length ∧ w.cell? ⟨g, k, none⟩ = some (.int .i64 y) ∧ ¬ y ≤ 1099511627776 ∧ ∀ h : k < L.length, L[k] = y) := by
      by_cases hlt : k < L.length
      · have hc := HZ.out.2.2.2 k hlt
        rw [Addr.add_lit, Nat.zero_add] at hc
        by_cases hy : L[k] ≤ 1099511627776
        · exact .inl ⟨hlt, _, hc, hy, fun _ => rfl⟩
        · exact .inr (.inr ⟨_, hlt, hc, hy, fun _ => rfl⟩)
      · exact .inr (.inl hlt)
    rcases key with ⟨hlt, y, hc, hy, e⟩ | hstop
    · have hlt1 : (k : Int) < L.length := by omega
      have HL := Lib.hid (And.intro hlo e)
      clear hlo e
      go_wp2_with fail
      go_round
      case rel =>
        refine ⟨k + 1, by omega, rfl, fun t ht htk => ?_⟩
        rcases Nat.lt_or_eq_of_le (Nat.le_of_lt_succ htk) with c | rfl
        · exact HL.out.1 t ht c
        · rw [HL.out.2]; exact hy
      case measure => simp only [RowKit.intOf]; omega
    · have he : insR 1099511627776 L = L.take k ++ ([1099511627776] ++ L.drop k) := insR_at hk hlo fun h c => by
        rcases hstop with h1 | ⟨y, _, _, hy, e⟩
        · exact h1 h
        · rw [e h] at c; exact hy c
      have k0 := num_take HZ.out.2.2.1 hk
      have k1 := num_drop HZ.out.2.2.1 hk hmc
      have HX := Lib.hid (And.intro HZ.out.1 (And.intro HZ.out.2.1 (And.intro HZ.out.2.2.1 he)))
      clear he hlo
      have hpc : k ≤ c := by omega
      have hp0 : (0 : Int) ≤ (k : Int) := by omega
      have hpm : (k : Int) ≤ L.length := by omega
      rcases hstop with hlt | ⟨y, hlt, hc, hy, e⟩
      all_goals
        first | (have hlt1 : ¬ (k : Int) < L.length := by omega) | (have hlt1 : (k : Int) < L.length := by omega)
        try clear e
        go_upto_region 7 with fail
        refine wp_region_any mixed ?_
        refine wpAny_take (i := 0) rfl (by kernel_rfl) (by kernel_rfl) (by kernel_rfl) (fun _ _ _ h => h) (.inl ⟨rfl, fun w => rfl⟩) ?_
        refine any_inv (l := _) 19 [0] (RInv w.heap.size w 3 1 _ 19 (fun i => 29 + i) (spNote r L.length k (.slice (some ⟨g, 0, none⟩) L.length c) (.slice (some ⟨g, 0, none⟩) k c) (.slice (if c = k then some ⟨g, 0, none⟩ else some ⟨g, k, none⟩) (L.length - k) (c - k)) L 1099511627776)) (by decide) (by kernel_rfl) (by kernel_rfl) (by kernel_rfl) (by kernel_rfl) ?_ ?_ 18 _ _ _ ((headInv_start _ 19).set (mem_of_contains (by kernel_rfl)) (by decide)) (fun i hi => by cases List.mem_singleton.1 hi; kernel_rfl) ((RInv.start _).advq (i := 0) (by decide) (by decide) (fun j k _ _ h e => h (Nat.add_left_cancel e)) (fun j hj => (by omega : 29 + j < 50)) _ rfl) (by decide +kernel)
        · intro listed a W io hi hsz _ HI hr
          have hsz' : io < listed.size := by rw [hsz]; show io < 22; omega
          have dinj : ∀ j k, j < 19 → k < 19 → j ≠ k → (fun i => 29 + i) j ≠ (fun i => 29 + i) k := fun j k _ _ h e => h (Nat.add_left_cancel e)
          have hd : ∀ j, j < 19 → (fun i => 29 + i) j < 50 := fun j hj => (by omega : 29 + j < 50)
          have e0 : a.tmps[0]?.getD undef = .pointer (some ⟨r, 0, none⟩) := raw (HI.keep 0 (fun j _ => (by omega : 29 + j ≠ 0)))
          have e1 : a.tmps[1]?.getD undef = .int .i64 1099511627776 := raw (HI.keep 1 (fun j _ => (by omega : 29 + j ≠ 1)))
          have e4 : a.tmps[4]?.getD undef = .int .i64 k := raw (HI.keep 4 (fun j _ => (by omega : 29 + j ≠ 4)))
          have c0 : W.cell? ⟨r, 0, none⟩ = some (.slice (some ⟨g, 0, none⟩) L.length c) := (HI.bel.cell (block_lt_of_cell q0)).trans q0
          have bW : Below w.heap.size w W := HI.bel
          match io, hi with
          | 0, hi =>
            refine HI.quiet hi hsz' dinj hd rfl rfl rfl (fun K h => ?_)
            simp [go_sem, e0]
            exact h
          | 1, hi =>
            refine HI.build rfl hi hsz' dinj hd rfl rfl rfl rfl (by decide) (fun K h => ?_)
            simp [go_sem]
            exact h
          | 2, hi =>
            refine HI.quiet hi hsz' dinj hd rfl rfl rfl (fun K h => ?_)
            simp [go_sem, e0]
            exact h
          | 3, hi =>
            have d2 := raw (HI.qs 2 _ (by decide) (dep hr 2 (by kernel_rfl)) rfl)
            refine HI.quiet hi hsz' dinj hd rfl rfl rfl (fun K h => ?_)
            simp [go_sem, d2]
            exact h
          | 4, hi =>
            have d3 := raw (HI.qs 3 _ (by decide) (dep hr 3 (by kernel_rfl)) rfl)
            refine HI.quiet hi hsz' dinj hd rfl rfl rfl (fun K h => ?_)
            simp [go_sem, d3]
            exact h
          | 5, hi =>
            have d4 := raw (HI.qs 4 _ (by decide) (dep hr 4 (by kernel_rfl)) rfl)
            refine HI.quiet hi hsz' dinj hd rfl rfl rfl (fun K h => ?_)
            simp [go_sem, d4, c0]
            exact h
          | 6, hi =>
            refine HI.quiet hi hsz' dinj hd rfl rfl rfl (fun K h => ?_)
            simp [go_sem, e4]
            exact h
          | 7, hi =>
            have d5 := raw (HI.qs 5 _ (by decide) (dep hr 5 (by kernel_rfl)) rfl)
            have d6 := raw (HI.qs 6 _ (by decide) (dep hr 6 (by kernel_rfl)) rfl)
            refine HI.quiet hi hsz' dinj hd rfl rfl rfl (fun K h => ?_)
            simp [go_sem, d5, d6, hpc, hp0]
            exact h
          | 8, hi =>
            have hun := getD_both (mem_ready.1 hr).1
            have hu := HI.qs 7 _ (by decide) (dep hr 7 (by kernel_rfl)) rfl
            refine HI.append rfl hi hsz' dinj hd (j1 := 1) (by decide) (dep hr 1 (by kernel_rfl)) rfl hun (by decide) rfl rfl (.tmp 36) _ _ rfl rfl _ hu rfl (fun v hv => app_i64' _ _ v _ _ hv _ _ _ (k0.below bW) (by omega) (by have := HI.bel.size; exact this))
          | 9, hi =>
            refine HI.quiet hi hsz' dinj hd rfl rfl rfl (fun K h => ?_)
            simp [go_sem, e1]
            exact h
          | 10, hi =>
            have d9 := raw (HI.qs 9 _ (by decide) (dep hr 9 (by kernel_rfl)) rfl)
            refine HI.build rfl hi hsz' dinj hd rfl rfl rfl rfl (by decide) (fun K h => ?_)
            simp [go_sem, d9]
            exact h
          | 11, hi =>
            have hun := getD_both (mem_ready.1 hr).1
            have hrow := HI.rs 10 1 _ 11 (by decide) (dep hr 10 (by kernel_rfl)) rfl hun
            refine HI.append rfl hi hsz' dinj hd (j1 := 8) (by decide) (dep hr 8 (by kernel_rfl)) rfl hun (by decide) rfl rfl (.tmp 39) _ _ rfl rfl _ rfl rfl (fun v hv => app_i64' _ _ v _ _ hv _ 1 _ (ArgAt.of_row hrow) (by omega) (by have := HI.bel.size; exact this))
          | 12, hi =>
            refine HI.quiet hi hsz' dinj hd rfl rfl rfl (fun K h => ?_)
            simp [go_sem, e0]
            exact h
          | 13, hi =>
            have d12 := raw (HI.qs 12 _ (by decide) (dep hr 12 (by kernel_rfl)) rfl)
            refine HI.quiet hi hsz' dinj hd rfl rfl rfl (fun K h => ?_)
            simp [go_sem, d12]
            exact h
          | 14, hi =>
            have d13 := raw (HI.qs 13 _ (by decide) (dep hr 13 (by kernel_rfl)) rfl)
            refine HI.quiet hi hsz' dinj hd rfl rfl rfl (fun K h => ?_)
            simp [go_sem, d13]
            exact h
          | 15, hi =>
            have d14 := raw (HI.qs 14 _ (by decide) (dep hr 14 (by kernel_rfl)) rfl)
            refine HI.quiet hi hsz' dinj hd rfl rfl rfl (fun K h => ?_)
            simp [go_sem, d14, c0]
            exact h
          | 16, hi =>
            refine HI.quiet hi hsz' dinj hd rfl rfl rfl (fun K h => ?_)
            simp [go_sem, e4]
            exact h
          | 17, hi =>
            have d15 := raw (HI.qs 15 _ (by decide) (dep hr 15 (by kernel_rfl)) rfl)
            have d16 := raw (HI.qs 16 _ (by decide) (dep hr 16 (by kernel_rfl)) rfl)
            refine HI.quiet hi hsz' dinj hd rfl rfl rfl (fun K h => ?_)
            simp [go_sem, d15, d16, hpm, hp0]
            exact h
          | 18, hi =>
            have hun := getD_both (mem_ready.1 hr).1
            have hu := HI.qs 17 _ (by decide) (dep hr 17 (by kernel_rfl)) rfl
            refine HI.append rfl hi hsz' dinj hd (j1 := 11) (by decide) (dep hr 11 (by kernel_rfl)) rfl hun (by decide) rfl rfl (.tmp 46) _ _ rfl rfl _ hu rfl (fun v hv => app_i64' _ _ v _ _ hv _ _ _ (k1.below bW) (by omega) (by have := HI.bel.size; exact this))
          | kk + 19, hi => exact absurd hi (by omega)
        · intro listed a W hall hsz HI
          have hout : ∀ c, 100 < c → listed.size = 22 → listed.getD c false = false := fun c hc h => by simp [Array.getD, h]; omega
          have r18 := HI.rs 18 _ _ 999 (by decide) (hall 18 (by decide)) rfl (hout 999 (by decide) hsz)
          have s0 : a.tmps.getD 0 undef = .pointer (some ⟨r, 0, none⟩) := HI.keep 0 (fun j _ => (by omega : 29 + j ≠ 0))
          have s29 : a.tmps.getD 29 undef = .pointer (some ⟨r, 0, none⟩) := HI.qs 0 _ (by decide) (hall 0 (by decide)) rfl
          have h62 : a.tmps.size = 50 := HI.size
          have hdf : a.defers = [] := HI.defers
          have bW : Below w.heap.size w W := HI.bel
          clear HI hall hsz hout
          obtain ⟨⟨ts⟩, df⟩ := a
          have hz : ts.length = 50 := h62
          obtain rfl : df = [] := hdf
          clear h62
          obtain ⟨u0, ts0, rfl, hz0⟩ := cons_of hz
          clear hz
          obtain ⟨u1, ts1, rfl, hz1⟩ := cons_of hz0
          clear hz0
          obtain ⟨u2, ts2, rfl, hz2⟩ := cons_of hz1
          clear hz1
          obtain ⟨u3, ts3, rfl, hz3⟩ := cons_of hz2
          clear hz2
          obtain ⟨u4, ts4, rfl, hz4⟩ := cons_of hz3
          clear hz3
          obtain ⟨u5, ts5, rfl, hz5⟩ := cons_of hz4
          clear hz4
          obtain ⟨u6, ts6, rfl, hz6⟩ := cons_of hz5
          clear hz5
          obtain ⟨u7, ts7, rfl, hz7⟩ := cons_of hz6
          clear hz6
          obtain ⟨u8, ts8, rfl, hz8⟩ := cons_of hz7
          clear hz7
          obtain ⟨u9, ts9, rfl, hz9⟩ := cons_of hz8
          clear hz8
          obtain ⟨u10, ts10, rfl, hz10⟩ := cons_of hz9
          clear hz9
          obtain ⟨u11, ts11, rfl, hz11⟩ := cons_of hz10
          clear hz10
          obtain ⟨u12, ts12, rfl, hz12⟩ := cons_of hz11
          clear hz11
          obtain ⟨u13, ts13, rfl, hz13⟩ := cons_of hz12
          clear hz12
          obtain ⟨u14, ts14, rfl, hz14⟩ := cons_of hz13
          clear hz13
          obtain ⟨u15, ts15, rfl, hz15⟩ := cons_of hz14
          clear hz14
          obtain ⟨u16, ts16, rfl, hz16⟩ := cons_of hz15
          clear hz15
          obtain ⟨u17, ts17, rfl, hz17⟩ := cons_of hz16
          clear hz16
          obtain ⟨u18, ts18, rfl, hz18⟩ := cons_of hz17
          clear hz17
          obtain ⟨u19, ts19, rfl, hz19⟩ := cons_of hz18
          clear hz18
          obtain ⟨u20, ts20, rfl, hz20⟩ := cons_of hz19
          clear hz19
          obtain ⟨u21, ts21, rfl, hz21⟩ := cons_of hz20
          clear hz20
          obtain ⟨u22, ts22, rfl, hz22⟩ := cons_of hz21
          clear hz21
          obtain ⟨u23, ts23, rfl, hz23⟩ := cons_of hz22
          clear hz22
          obtain ⟨u24, ts24, rfl, hz24⟩ := cons_of hz23
          clear hz23
          obtain ⟨u25, ts25, rfl, hz25⟩ := cons_of hz24
          clear hz24
          obtain ⟨u26, ts26, rfl, hz26⟩ := cons_of hz25
          clear hz25
          obtain ⟨u27, ts27, rfl, hz27⟩ := cons_of hz26
          clear hz26
          obtain ⟨u28, ts28, rfl, hz28⟩ := cons_of hz27
          clear hz27
          obtain ⟨u29, ts29, rfl, hz29⟩ := cons_of hz28
          clear hz28
          obtain ⟨u30, ts30, rfl, hz30⟩ := cons_of hz29
          clear hz29
          obtain ⟨u31, ts31, rfl, hz31⟩ := cons_of hz30
          clear hz30
          obtain ⟨u32, ts32, rfl, hz32⟩ := cons_of hz31
          clear hz31
          obtain ⟨u33, ts33, rfl, hz33⟩ := cons_of hz32
          clear hz32
          obtain ⟨u34, ts34, rfl, hz34⟩ := cons_of hz33
          clear hz33
          obtain ⟨u35, ts35, rfl, hz35⟩ := cons_of hz34
          clear hz34
          obtain ⟨u36, ts36, rfl, hz36⟩ := cons_of hz35
          clear hz35
          obtain ⟨u37, ts37, rfl, hz37⟩ := cons_of hz36
          clear hz36
          obtain ⟨u38, ts38, rfl, hz38⟩ := cons_of hz37
          clear hz37
          obtain ⟨u39, ts39, rfl, hz39⟩ := cons_of hz38
          clear hz38
          obtain ⟨u40, ts40, rfl, hz40⟩ := cons_of hz39
          clear hz39
          obtain ⟨u41, ts41, rfl, hz41⟩ := cons_of hz40
          clear hz40
          obtain ⟨u42, ts42, rfl, hz42⟩ := cons_of hz41
          clear hz41
          obtain ⟨u43, ts43, rfl, hz43⟩ := cons_of hz42
          clear hz42
          obtain ⟨u44, ts44, rfl, hz44⟩ := cons_of hz43
          clear hz43
          obtain ⟨u45, ts45, rfl, hz45⟩ := cons_of hz44
          clear hz44
          obtain ⟨u46, ts46, rfl, hz46⟩ := cons_of hz45
          clear hz45
          obtain ⟨u47, ts47, rfl, hz47⟩ := cons_of hz46
          clear hz46
          obtain ⟨u48, ts48, rfl, hz48⟩ := cons_of hz47
          clear hz47
          obtain ⟨u49, ts49, rfl, hz49⟩ := cons_of hz48
          clear hz48
          obtain rfl := List.length_eq_zero_iff.1 hz49
          clear hz49
          obtain rfl : u0 = .pointer (some ⟨r, 0, none⟩) := s0
          obtain rfl : u29 = .pointer (some ⟨r, 0, none⟩) := s29
          have R18 : W.ownsRow w.heap.size 3 1 u47 (insR 1099511627776 L).length (nums (insR 1099511627776 L)) := by
            have h9 : W.ownsRow w.heap.size 3 1 u47 (0 + k + 1 + (L.length - k)) ((([] ++ nums (L.take k)) ++ nums [1099511627776]) ++ nums (L.drop k)) := r18
            have he : insR 1099511627776 L = L.take k ++ ([1099511627776] ++ L.drop k) := HX.out.2.2.2
            rw [insR_len, he, nums_app, nums_app, ← List.append_assoc]
            rw [List.nil_append] at h9
            rw [show L.length + 1 = 0 + k + 1 + (L.length - k) by omega]
            exact h9
          clear r18
          obtain ⟨p5, c5, rfl, _, _, m5, _⟩ := num_row R18
          have b1 := HX.out.2.1.below bW
          have d1 := b1.cell 0
          have f1 := b1.free 0
          have HY := Lib.hid (And.intro R18 (And.intro m5 (And.intro b1 bW)))
          clear R18 m5 b1 bW
          simp only [List.drop_succ_cons, List.drop_zero]
          go_wp2_with fail
          refine bodyPost_end (results_none rfl _ _ _) rfl ?_
          obtain ⟨R18, m5, b1, bW⟩ := HY.out
          obtain ⟨H, h1, h2, _⟩ := HX.out
          have hr := H.lt r H.own
          have hs := bW.size
          have hW : Chg (fun i => i = r) W (W.setCell ⟨r, 0, none⟩ (.slice p5 (insR 1099511627776 L).length c5)) := (Chg.refl (fun i => i = r) W).set_ (b := r) rfl _ _
          have hC : Chg (fun i => i = r) w (W.setCell ⟨r, 0, none⟩ (.slice p5 (insR 1099511627776 L).length c5)) := (Chg.of bW).trans hW fun i hi => .inl hi
          refine ⟨rfl, fun i => T i ∨ (Value.slice p5 (insR 1099511627776 L).length c5).ownBlock = some i, ⟨⟨_, b1.set_ 0 _, owns_chg hW (owns0 R18) fun i hi c => by have := m5 i hi; omega, fun i hi => ⟨.inr hi, by have := m5 i hi; omega⟩⟩, .inl H.own, ?_, by have := insR_len 1099511627776 L; omega⟩, hC, ?_⟩
          · intro i hi
            have hW2 := hW.size
            rcases hi with hi | hi
            · have := H.lt i hi; omega
            · have := (R18.lt i hi).2; omega
          · intro i hi
            rcases hi with hi | hi
            · exact .inl hi
            · exact .inr (m5 i hi)

set_option maxHeartbeats 4000000 in
set_option maxRecDepth 100000 in
theorem noter_row2 (T : Nat → Prop) (r g c : Nat) (L : List Int) (n : Int) (w : World) (H : RN w T r L) (h1 : Blk w r 33 #[.slice (some ⟨g, 0, none⟩) L.length c]) (h2 : w.ownsRow 0 3 1 (.slice (some ⟨g, 0, none⟩) L.length c) L.length (nums L)) (hmc : L.length ≤ c) (hl : L.length < 1000) (n1 : ¬ n < 0) (n2 : ¬ 1099511627776 < n) :
    Calls Try.prog 28 #[.pointer (some ⟨r, 0, none⟩), .int .i64 n] w fun e w' => e = .returned (.tuple #[]) ∧ ∃ T', RN w' T' r (insR n L) ∧ Chg (fun i => i = r) w w' ∧ New w T T' := by
  have q0 := h1.cell 0
  have mixed : Try.prog.follows .mixedOrders = true := by kernel_rfl
  have hR : ∀ i (hi : i < L.length), w.cell? ((⟨g, 0, none⟩ : Addr).add i) = some (.int .i64 L[i]) := fun i hi => by
    obtain ⟨p, c', e1, _, _, _, hR⟩ := num_row h2
    injection e1 with e1 _ _
    obtain ⟨a, e2, h3⟩ := hR i hi
    rw [e2] at e1
    injection e1 with e1
    rw [e1]
    exact h3
  have HZ := Lib.hid (And.intro H (And.intro h1 (And.intro h2 hR)))
  clear h1 h2 H hR
  go_enter Try.func28, Try.ntmps28
  go_wp2_with fail
  go_loop [4] (fun s4 => ∃ k : Nat, k ≤ L.length ∧ s4 = .int .i64 k ∧ ∀ t (h : t < L.length), t < k → L[t] ≤ n) (fun s4 => L.length - (RowKit.intOf s4).toNat)
  case atStart => exact ⟨0, Nat.zero_le _, rfl, fun t _ ht => absurd ht (by omega)⟩
  case round =>
    obtain ⟨k, hk, rfl, hlo⟩ := hrel
    have hw : IntKind.i64.wrap ((k : Int) + 1) = (k : Int) + 1 := by rw [IntKind.wrap_i64]; omega
    have key : (k < L.length ∧ ∃ y, w.cell? ⟨g, k, none⟩ = some (.int .i64 y) ∧ y ≤ n ∧ ∀ h : k < L.length, L[k] = y) ∨ (¬ k < L.length ∨ ∃ y, k < L.length ∧ w.cell? ⟨g, k, none⟩ = some (.int .i64 y) ∧ ¬ y ≤ n ∧ ∀ h : k < L.length, L[k] = y) := by
      by_cases hlt : k < L.length
      · have hc := HZ.out.2.2.2 k hlt
        rw [Addr.add_lit, Nat.zero_add] at hc
        by_cases hy : L[k] ≤ n
        · exact .inl ⟨hlt, _, hc, hy, fun _ => rfl⟩
        · exact .inr (.inr ⟨_, hlt, hc, hy, fun _ => rfl⟩)
      · exact .inr (.inl hlt)
    rcases key with ⟨hlt, y, hc, hy, e⟩ | hstop
    · have hlt1 : (k : Int) < L.length := by omega
      have HL := Lib.hid (And.intro hlo e)
      clear hlo e
      go_wp2_with fail
      go_round
      case rel =>
        refine ⟨k + 1, by omega, rfl, fun t ht htk => ?_⟩
        rcases Nat.lt_or_eq_of_le (Nat.le_of_lt_succ htk) with c | rfl
        · exact HL.out.1 t ht c
        · rw [HL.out.2]; exact hy
      case measure => simp only [RowKit.intOf]; omega
    · have he : insR n L = L.take k ++ ([n] ++ L.drop k) := insR_at hk hlo fun h c => by
        rcases hstop with h1 | ⟨y, _, _, hy, e⟩
        · exact h1 h
        · rw [e h] at c; exact hy c
      have k0 := num_take HZ.out.2.2.1 hk
      have k1 := num_drop HZ.out.2.2.1 hk hmc
      have HX := Lib.hid (And.intro HZ.out.1 (And.intro HZ.out.2.1 (And.intro HZ.out.2.2.1 he)))
      clear he hlo
      have hpc : k ≤ c := by omega
      have hp0 : (0 : Int) ≤ (k : Int) := by omega
      have hpm : (k : Int) ≤ L.length := by omega
      rcases hstop with hlt | ⟨y, hlt, hc, hy, e⟩
      all_goals
        first | (have hlt1 : ¬ (k : Int) < L.length := by omega) | (have hlt1 : (k : Int) < L.length := by omega)
        try clear e
        go_upto_region 7 with fail
        refine wp_region_any mixed ?_
        refine wpAny_take (i := 0) rfl (by kernel_rfl) (by kernel_rfl) (by kernel_rfl) (fun _ _ _ h => h) (.inl ⟨rfl, fun w => rfl⟩) ?_
        refine any_inv (l := _) 19 [0] (RInv w.heap.size w 3 1 _ 19 (fun i => 29 + i) (spNote r L.length k (.slice (some ⟨g, 0, none⟩) L.length c) (.slice (some ⟨g, 0, none⟩) k c) (.slice (if c = k then some ⟨g, 0, none⟩ else some ⟨g, k, none⟩) (L.length - k) (c - k)) L n)) (by decide) (by kernel_rfl) (by kernel_rfl) (by kernel_rfl) (by kernel_rfl) ?_ ?_ 18 _ _ _ ((headInv_start _ 19).set (mem_of_contains (by kernel_rfl)) (by decide)) (fun i hi => by cases List.mem_singleton.1 hi; kernel_rfl) ((RInv.start _).advq (i := 0) (by decide) (by decide) (fun j k _ _ h e => h (Nat.add_left_cancel e)) (fun j hj => (by omega : 29 + j < 50)) _ rfl) (by decide +kernel)
        · intro listed a W io hi hsz _ HI hr
          have hsz' : io < listed.size := by rw [hsz]; show io < 22; omega
          have dinj : ∀ j k, j < 19 → k < 19 → j ≠ k → (fun i => 29 + i) j ≠ (fun i => 29 + i) k := fun j k _ _ h e => h (Nat.add_left_cancel e)
          have hd : ∀ j, j < 19 → (fun i => 29 + i) j < 50 := fun j hj => (by omega : 29 + j < 50)
          have e0 : a.tmps[0]?.getD undef = .pointer (some ⟨r, 0, none⟩) := raw (HI.keep 0 (fun j _ => (by omega : 29 + j ≠ 0)))
          have e1 : a.tmps[1]?.getD undef = .int .i64 n := raw (HI.keep 1 (fun j _ => (by omega : 29 + j ≠ 1)))
          have e4 : a.tmps[4]?.getD undef = .int .i64 k := raw (HI.keep 4 (fun j _ => (by omega : 29 + j ≠ 4)))
          have c0 : W.cell? ⟨r, 0, none⟩ = some (.slice (some ⟨g, 0, none⟩) L.length c) := (HI.bel.cell (block_lt_of_cell q0)).trans q0
          have bW : Below w.heap.size w W := HI.bel
          match io, hi with
          | 0, hi =>
            refine HI.quiet hi hsz' dinj hd rfl rfl rfl (fun K h => ?_)
            simp [go_sem, e0]
            exact h
          | 1, hi =>
            refine HI.build rfl hi hsz' dinj hd rfl rfl rfl rfl (by decide) (fun K h => ?_)
            simp [go_sem]
            exact h
          | 2, hi =>
            refine HI.quiet hi hsz' dinj hd rfl rfl rfl (fun K h => ?_)
            simp [go_sem, e0]
            exact h
          | 3, hi =>
            have d2 := raw (HI.qs 2 _ (by decide) (dep hr 2 (by kernel_rfl)) rfl)
            refine HI.quiet hi hsz' dinj hd rfl rfl rfl (fun K h => ?_)
            simp [go_sem, d2]
            exact h
          | 4, hi =>
            have d3 := raw (HI.qs 3 _ (by decide) (dep hr 3 (by kernel_rfl)) rfl)
            refine HI.quiet hi hsz' dinj hd rfl rfl rfl (fun K h => ?_)
            simp [go_sem, d3]
            exact h
          | 5, hi =>
            have d4 := raw (HI.qs 4 _ (by decide) (dep hr 4 (by kernel_rfl)) rfl)
            refine HI.quiet hi hsz' dinj hd rfl rfl rfl (fun K h => ?_)
            simp [go_sem, d4, c0]
            exact h
          | 6, hi =>
            refine HI.quiet hi hsz' dinj hd rfl rfl rfl (fun K h => ?_)
            simp [go_sem, e4]
            exact h
          | 7, hi =>
            have d5 := raw (HI.qs 5 _ (by decide) (dep hr 5 (by kernel_rfl)) rfl)
            have d6 := raw (HI.qs 6 _ (by decide) (dep hr 6 (by kernel_rfl)) rfl)
            refine HI.quiet hi hsz' dinj hd rfl rfl rfl (fun K h => ?_)
            simp [go_sem, d5, d6, hpc, hp0]
            exact h
          | 8, hi =>
            have hun := getD_both (mem_ready.1 hr).1
            have hu := HI.qs 7 _ (by decide) (dep hr 7 (by kernel_rfl)) rfl
            refine HI.append rfl hi hsz' dinj hd (j1 := 1) (by decide) (dep hr 1 (by kernel_rfl)) rfl hun (by decide) rfl rfl (.tmp 36) _ _ rfl rfl _ hu rfl (fun v hv => app_i64' _ _ v _ _ hv _ _ _ (k0.below bW) (by omega) (by have := HI.bel.size; exact this))
          | 9, hi =>
            refine HI.quiet hi hsz' dinj hd rfl rfl rfl (fun K h => ?_)
            simp [go_sem, e1]
            exact h
          | 10, hi =>
            have d9 := raw (HI.qs 9 _ (by decide) (dep hr 9 (by kernel_rfl)) rfl)
            refine HI.build rfl hi hsz' dinj hd rfl rfl rfl rfl (by decide) (fun K h => ?_)
            simp [go_sem, d9]
            exact h
          | 11, hi =>
            have hun := getD_both (mem_ready.1 hr).1
            have hrow := HI.rs 10 1 _ 11 (by decide) (dep hr 10 (by kernel_rfl)) rfl hun
            refine HI.append rfl hi hsz' dinj hd (j1 := 8) (by decide) (dep hr 8 (by kernel_rfl)) rfl hun (by decide) rfl rfl (.tmp 39) _ _ rfl rfl _ rfl rfl (fun v hv => app_i64' _ _ v _ _ hv _ 1 _ (ArgAt.of_row hrow) (by omega) (by have := HI.bel.size; exact this))
          | 12, hi =>
            refine HI.quiet hi hsz' dinj hd rfl rfl rfl (fun K h => ?_)
            simp [go_sem, e0]
            exact h
          | 13, hi =>
            have d12 := raw (HI.qs 12 _ (by decide) (dep hr 12 (by kernel_rfl)) rfl)
            refine HI.quiet hi hsz' dinj hd rfl rfl rfl (fun K h => ?_)
            simp [go_sem, d12]
            exact h
          | 14, hi =>
            have d13 := raw (HI.qs 13 _ (by decide) (dep hr 13 (by kernel_rfl)) rfl)
            refine HI.quiet hi hsz' dinj hd rfl rfl rfl (fun K h => ?_)
            simp [go_sem, d13]
            exact h
          | 15, hi =>
            have d14 := raw (HI.qs 14 _ (by decide) (dep hr 14 (by kernel_rfl)) rfl)
            refine HI.quiet hi hsz' dinj hd rfl rfl rfl (fun K h => ?_)
            simp [go_sem, d14, c0]
            exact h
          | 16, hi =>
            refine HI.quiet hi hsz' dinj hd rfl rfl rfl (fun K h => ?_)
            simp [go_sem, e4]
            exact h
          | 17, hi =>
            have d15 := raw (HI.qs 15 _ (by decide) (dep hr 15 (by kernel_rfl)) rfl)
            have d16 := raw (HI.qs 16 _ (by decide) (dep hr 16 (by kernel_rfl)) rfl)
            refine HI.quiet hi hsz' dinj hd rfl rfl rfl (fun K h => ?_)
            simp [go_sem, d15, d16, hpm, hp0]
            exact h
          | 18, hi =>
            have hun := getD_both (mem_ready.1 hr).1
            have hu := HI.qs 17 _ (by decide) (dep hr 17 (by kernel_rfl)) rfl
            refine HI.append rfl hi hsz' dinj hd (j1 := 11) (by decide) (dep hr 11 (by kernel_rfl)) rfl hun (by decide) rfl rfl (.tmp 46) _ _ rfl rfl _ hu rfl (fun v hv => app_i64' _ _ v _ _ hv _ _ _ (k1.below bW) (by omega) (by have := HI.bel.size; exact this))
          | kk + 19, hi => exact absurd hi (by omega)
        · intro listed a W hall hsz HI
          have hout : ∀ c, 100 < c → listed.size = 22 → listed.getD c false = false := fun c hc h => by simp [Array.getD, h]; omega
          have r18 := HI.rs 18 _ _ 999 (by decide) (hall 18 (by decide)) rfl (hout 999 (by decide) hsz)
          have s0 : a.tmps.getD 0 undef = .pointer (some ⟨r, 0, none⟩) := HI.keep 0 (fun j _ => (by omega : 29 + j ≠ 0))
          have s29 : a.tmps.getD 29 undef = .pointer (some ⟨r, 0, none⟩) := HI.qs 0 _ (by decide) (hall 0 (by decide)) rfl
          have h62 : a.tmps.size = 50 := HI.size
          have hdf : a.defers = [] := HI.defers
          have bW : Below w.heap.size w W := HI.bel
          clear HI hall hsz hout
          obtain ⟨⟨ts⟩, df⟩ := a
          have hz : ts.length = 50 := h62
          obtain rfl : df = [] := hdf
          clear h62
          obtain ⟨u0, ts0, rfl, hz0⟩ := cons_of hz
          clear hz
          obtain ⟨u1, ts1, rfl, hz1⟩ := cons_of hz0
          clear hz0
          obtain ⟨u2, ts2, rfl, hz2⟩ := cons_of hz1
          clear hz1
          obtain ⟨u3, ts3, rfl, hz3⟩ := cons_of hz2
          clear hz2
          obtain ⟨u4, ts4, rfl, hz4⟩ := cons_of hz3
          clear hz3
          obtain ⟨u5, ts5, rfl, hz5⟩ := cons_of hz4
          clear hz4
          obtain ⟨u6, ts6, rfl, hz6⟩ := cons_of hz5
          clear hz5
          obtain ⟨u7, ts7, rfl, hz7⟩ := cons_of hz6
          clear hz6
          obtain ⟨u8, ts8, rfl, hz8⟩ := cons_of hz7
          clear hz7
          obtain ⟨u9, ts9, rfl, hz9⟩ := cons_of hz8
          clear hz8
          obtain ⟨u10, ts10, rfl, hz10⟩ := cons_of hz9
          clear hz9
          obtain ⟨u11, ts11, rfl, hz11⟩ := cons_of hz10
          clear hz10
          obtain ⟨u12, ts12, rfl, hz12⟩ := cons_of hz11
          clear hz11
          obtain ⟨u13, ts13, rfl, hz13⟩ := cons_of hz12
          clear hz12
          obtain ⟨u14, ts14, rfl, hz14⟩ := cons_of hz13
          clear hz13
          obtain ⟨u15, ts15, rfl, hz15⟩ := cons_of hz14
          clear hz14
          obtain ⟨u16, ts16, rfl, hz16⟩ := cons_of hz15
          clear hz15
          obtain ⟨u17, ts17, rfl, hz17⟩ := cons_of hz16
          clear hz16
          obtain ⟨u18, ts18, rfl, hz18⟩ := cons_of hz17
          clear hz17
          obtain ⟨u19, ts19, rfl, hz19⟩ := cons_of hz18
          clear hz18
          obtain ⟨u20, ts20, rfl, hz20⟩ := cons_of hz19
          clear hz19
          obtain ⟨u21, ts21, rfl, hz21⟩ := cons_of hz20
          clear hz20
          obtain ⟨u22, ts22, rfl, hz22⟩ := cons_of hz21
          clear hz21
          obtain ⟨u23, ts23, rfl, hz23⟩ := cons_of hz22
          clear hz22
          obtain ⟨u24, ts24, rfl, hz24⟩ := cons_of hz23
          clear hz23
          obtain ⟨u25, ts25, rfl, hz25⟩ := cons_of hz24
          clear hz24
          obtain ⟨u26, ts26, rfl, hz26⟩ := cons_of hz25
          clear hz25
          obtain ⟨u27, ts27, rfl, hz27⟩ := cons_of hz26
          clear hz26
          obtain ⟨u28, ts28, rfl, hz28⟩ := cons_of hz27
          clear hz27
          obtain ⟨u29, ts29, rfl, hz29⟩ := cons_of hz28
          clear hz28
          obtain ⟨u30, ts30, rfl, hz30⟩ := cons_of hz29
          clear hz29
          obtain ⟨u31, ts31, rfl, hz31⟩ := cons_of hz30
          clear hz30
          obtain ⟨u32, ts32, rfl, hz32⟩ := cons_of hz31
          clear hz31
          obtain ⟨u33, ts33, rfl, hz33⟩ := cons_of hz32
          clear hz32
          obtain ⟨u34, ts34, rfl, hz34⟩ := cons_of hz33
          clear hz33
          obtain ⟨u35, ts35, rfl, hz35⟩ := cons_of hz34
          clear hz34
          obtain ⟨u36, ts36, rfl, hz36⟩ := cons_of hz35
          clear hz35
          obtain ⟨u37, ts37, rfl, hz37⟩ := cons_of hz36
          clear hz36
          obtain ⟨u38, ts38, rfl, hz38⟩ := cons_of hz37
          clear hz37
          obtain ⟨u39, ts39, rfl, hz39⟩ := cons_of hz38
          clear hz38
          obtain ⟨u40, ts40, rfl, hz40⟩ := cons_of hz39
          clear hz39
          obtain ⟨u41, ts41, rfl, hz41⟩ := cons_of hz40
          clear hz40
          obtain ⟨u42, ts42, rfl, hz42⟩ := cons_of hz41
          clear hz41
          obtain ⟨u43, ts43, rfl, hz43⟩ := cons_of hz42
          clear hz42
          obtain ⟨u44, ts44, rfl, hz44⟩ := cons_of hz43
          clear hz43
          obtain ⟨u45, ts45, rfl, hz45⟩ := cons_of hz44
          clear hz44
          obtain ⟨u46, ts46, rfl, hz46⟩ := cons_of hz45
          clear hz45
          obtain ⟨u47, ts47, rfl, hz47⟩ := cons_of hz46
          clear hz46
          obtain ⟨u48, ts48, rfl, hz48⟩ := cons_of hz47
          clear hz47
          obtain ⟨u49, ts49, rfl, hz49⟩ := cons_of hz48
          clear hz48
          obtain rfl := List.length_eq_zero_iff.1 hz49
          clear hz49
          obtain rfl : u0 = .pointer (some ⟨r, 0, none⟩) := s0
          obtain rfl : u29 = .pointer (some ⟨r, 0, none⟩) := s29
          have R18 : W.ownsRow w.heap.size 3 1 u47 (insR n L).length (nums (insR n L)) := by
            have h9 : W.ownsRow w.heap.size 3 1 u47 (0 + k + 1 + (L.length - k)) ((([] ++ nums (L.take k)) ++ nums [n]) ++ nums (L.drop k)) := r18
            have he : insR n L = L.take k ++ ([n] ++ L.drop k) := HX.out.2.2.2
            rw [insR_len, he, nums_app, nums_app, ← List.append_assoc]
            rw [List.nil_append] at h9
            rw [show L.length + 1 = 0 + k + 1 + (L.length - k) by omega]
            exact h9
          clear r18
          obtain ⟨p5, c5, rfl, _, _, m5, _⟩ := num_row R18
          have b1 := HX.out.2.1.below bW
          have d1 := b1.cell 0
          have f1 := b1.free 0
          have HY := Lib.hid (And.intro R18 (And.intro m5 (And.intro b1 bW)))
          clear R18 m5 b1 bW
          simp only [List.drop_succ_cons, List.drop_zero]
          go_wp2_with fail
          refine bodyPost_end (results_none rfl _ _ _) rfl ?_
          obtain ⟨R18, m5, b1, bW⟩ := HY.out
          obtain ⟨H, h1, h2, _⟩ := HX.out
          have hr := H.lt r H.own
          have hs := bW.size
          have hW : Chg (fun i => i = r) W (W.setCell ⟨r, 0, none⟩ (.slice p5 (insR n L).length c5)) := (Chg.refl (fun i => i = r) W).set_ (b := r) rfl _ _
          have hC : Chg (fun i => i = r) w (W.setCell ⟨r, 0, none⟩ (.slice p5 (insR n L).length c5)) := (Chg.of bW).trans hW fun i hi => .inl hi
          refine ⟨rfl, fun i => T i ∨ (Value.slice p5 (insR n L).length c5).ownBlock = some i, ⟨⟨_, b1.set_ 0 _, owns_chg hW (owns0 R18) fun i hi c => by have := m5 i hi; omega, fun i hi => ⟨.inr hi, by have := m5 i hi; omega⟩⟩, .inl H.own, ?_, by have := insR_len n L; omega⟩, hC, ?_⟩
          · intro i hi
            have hW2 := hW.size
            rcases hi with hi | hi
            · have := H.lt i hi; omega
            · have := (R18.lt i hi).2; omega
          · intro i hi
            rcases hi with hi | hi
            · exact .inl hi
            · exact .inr (m5 i hi)

theorem noter_c (T : Nat → Prop) (r : Nat) (L : List Int) (n : Int) (w : World) (H : RN w T r L) (hl : L.length < 1000) :
    Calls Try.prog 28 #[.pointer (some ⟨r, 0, none⟩), .int .i64 n] w fun e w' => e = .returned (.tuple #[]) ∧ ∃ T', RN w' T' r (insR (clampP n) L) ∧ Chg (fun i => i = r) w w' ∧ New w T T' := by
  obtain ⟨v, h1, h2, h4⟩ := H.ex
  rcases row_or h2 with ⟨rfl, h0⟩ | ⟨g, c, rfl, hc⟩
  · obtain rfl := List.length_eq_zero_iff.1 h0
    by_cases n1 : n < 0
    · rw [show clampP n = 0 by unfold clampP; omega]; exact noter_nil0 T r n w H h1 h2 n1
    · by_cases n2 : 1099511627776 < n
      · rw [show clampP n = 1099511627776 by unfold clampP; omega]; exact noter_nil1 T r n w H h1 h2 n1 n2
      · rw [show clampP n = n by unfold clampP; omega]; exact noter_nil2 T r n w H h1 h2 n1 n2
  · by_cases n1 : n < 0
    · rw [show clampP n = 0 by unfold clampP; omega]; exact noter_row0 T r g c L n w H h1 h2 hc hl n1
    · by_cases n2 : 1099511627776 < n
      · rw [show clampP n = 1099511627776 by unfold clampP; omega]; exact noter_row1 T r g c L n w H h1 h2 hc hl n1 n2
      · rw [show clampP n = n by unfold clampP; omega]; exact noter_row2 T r g c L n w H h1 h2 hc hl n1 n2
end Go.Proofs.Ytajklhlgakpgiaa
