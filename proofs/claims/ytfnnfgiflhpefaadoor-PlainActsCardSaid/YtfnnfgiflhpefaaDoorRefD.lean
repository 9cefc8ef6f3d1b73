/-
  The reference of the layer plain (amblerref26): Delete.
-/
import Derived.Test.YtfnnfgiflhpefaaDoorRefC
namespace Go.Proofs.YtfnnfgiflhpefaaDoor
open Go.RowKit Go.Lib

theorem delr_none (T : Nat → Prop) (r : Nat) (most : Int) (l : List Pr2) (key : Int) (w : World) (H : RF w T r most l) (hq : look l key = none) :
    Calls Tryd.prog 21 #[.pointer (some ⟨r, 0, none⟩), .int .u64 key] w fun e w' => e = .returned (.bool false) ∧ w = w' := by
  have HF := Lib.hid (findr_none T r most l key w H hq)
  clear H hq
  go_enter Tryd.func21, Tryd.ntmps21
  go_wp2_with fail
  refine HF.out.mono ?_
  rintro e w' ⟨rfl, rfl⟩
  go_wp2_with fail
  go_ret
  exact ⟨rfl, rfl⟩

theorem ints_take (l : List Int) (k : Nat) : ints (l.take k) = (ints l).take k := by simp [ints, List.map_take]
theorem ints_drop (l : List Int) (k : Nat) : ints (l.drop k) = (ints l).drop k := by simp [ints, List.map_drop]
theorem arg_take {w : World} {B n k c : Nat} {a : Addr} {xs : List Int} (h : w.ownsRow B 33 1 (.slice (some a) n c) n (ints xs)) (hk : k < n) : ArgAt w 1 (.slice (some a) k c) k (ints (xs.take k)) := by
  have hl := h.1
  rcases ArgAt.of_row h with ⟨h0, _⟩ | ⟨a', c', h0, h1, h2⟩
  · cases h0
  · injection h0 with e1 e2 e3
    injection e1 with e1
    subst e1 e3
    refine .inr ⟨a, c, rfl, by rw [ints_take, List.length_take]; omega, fun j v hj => h2 j v ?_⟩
    rw [ints_take, List.getElem?_take] at hj
    split at hj
    · exact hj
    · cases hj
theorem arg_drop {w : World} {B n k c : Nat} {a : Addr} {xs : List Int} (h : w.ownsRow B 33 1 (.slice (some a) n c) n (ints xs)) (hk : k < n) (hc : n ≤ c) : ArgAt w 1 (.slice (if c = k + 1 then some a else some ⟨a.block, a.off + (k + 1), none⟩) (n - (k + 1)) (c - (k + 1))) (n - (k + 1)) (ints (xs.drop (k + 1))) := by
  have hl := h.1
  obtain ⟨g, rfl⟩ : ∃ g, a = ⟨g, 0, none⟩ := by
    rcases h.2 with ⟨h0, _⟩ | ⟨g, cap, cur, h0, _⟩
    · cases h0
    · injection h0 with h0
      injection h0 with h0
      exact ⟨g, h0⟩
  rcases ArgAt.of_row h with ⟨h0, _⟩ | ⟨a', c', h0, h1, h2⟩
  · cases h0
  · injection h0 with e1 e2 e3
    injection e1 with e1
    subst e1 e3
    have hln : (ints (xs.drop (k + 1))).length = n - (k + 1) := by rw [ints_drop, List.length_drop]; omega
    by_cases hz : c = k + 1
    · rw [if_pos hz]
      refine .inr ⟨_, _, rfl, by omega, fun j v hj => ?_⟩
      have := (List.getElem?_eq_some_iff.1 hj).1
      omega
    · rw [if_neg hz]
      refine .inr ⟨_, _, rfl, by omega, fun j v hj => ?_⟩
      rw [ints_drop, List.getElem?_drop] at hj
      have := h2 _ v hj
      rw [Addr.add_lit] at this ⊢
      rw [show 0 + (k + 1) + j = 0 + (k + 1 + j) by omega]
      exact this

/-- What the operations of a region hand back: the parts ahead of place k and behind it, joined. -/
def spDel (r fld n k : Nat) (a : Addr) (c : Nat) (xs : List Int) (i : Nat) : Sp :=
  ([.q (.pointer (some ⟨r, 0, none⟩)), .r 0 [] 8, .q (.pointer (some ⟨r, 0, none⟩)), .q (.pointer (some ⟨r, 0, none⟩)), .q (.pointer (some ⟨r, fld, none⟩)), .q (.slice (some a) n c), .q (.int .i64 k), .q (.slice (some a) k c), .r (0 + k) ([] ++ ints (xs.take k)) 16,
    .q (.pointer (some ⟨r, 0, none⟩)), .q (.pointer (some ⟨r, 0, none⟩)), .q (.pointer (some ⟨r, fld, none⟩)), .q (.slice (some a) n c), .q (.int .i64 k), .q (.int .i64 ((k : Int) + 1)), .q (.slice (if c = k + 1 then some a else some ⟨a.block, a.off + (k + 1), none⟩) (n - (k + 1)) (c - (k + 1))),
    .r (0 + k + (n - (k + 1))) (([] ++ ints (xs.take k)) ++ ints (xs.drop (k + 1))) 999] : List Sp).getD i (.q undef)

set_option maxHeartbeats 1000000 in
set_option maxRecDepth 100000 in
theorem delr_hit (T : Nat → Prop) (r : Nat) (most : Int) (l : List Pr2) (key : Int) (k : Nat) (w : World) (H : RF w T r most l) (hf : FirstAt l key k) :
    Calls Tryd.prog 21 #[.pointer (some ⟨r, 0, none⟩), .int .u64 key] w fun e w' => e = .returned (.bool true) ∧ ∃ T', RF w' T' r most (l.take k ++ l.drop (k + 1)) ∧ Chg (fun i => i = r) w w' ∧ New w T T' := by
  have HF := Lib.hid (findr_hit T r most l key k w H hf)
  obtain ⟨vk, vv, h1, h2, h3, h4, h5⟩ := H.ex
  have hsm := H.small
  obtain ⟨hkl, _⟩ := hf
  obtain ⟨p, c, rfl, hn1, hc, _, hR⟩ := u64_row h2
  obtain ⟨p2, c2, rfl, hn2, hc2, _, hR2⟩ := u64_row h3
  obtain ⟨a1, rfl, _⟩ := hR k (by omega)
  obtain ⟨a2, rfl, _⟩ := hR2 k (by omega)
  have q1 := h1.cell 1
  have q2 := h1.cell 2
  have mixed : Tryd.prog.follows .mixedOrders = true := by kernel_rfl
  have hkc : k ≤ c := by omega
  have hkc2 : k ≤ c2 := by omega
  have hk3 : (0 : Int) ≤ (k : Int) + 1 := by omega
  have hk4 : (k : Int) + 1 ≤ l.length := by omega
  have hw : IntKind.i64.wrap ((k : Int) + 1) = (k : Int) + 1 := by rw [IntKind.wrap_i64]; omega
  have k0 := arg_take h2 hkl
  have k1 := arg_drop h2 hkl hc
  have HX := Lib.hid (And.intro H (And.intro h1 (And.intro h2 (And.intro h3 (And.intro h4 h5)))))
  clear h1 h2 h3 h4 h5 hR hR2 H
  go_enter Tryd.func21, Tryd.ntmps21
  go_wp2_with fail
  refine HF.out.mono ?_
  rintro e w' ⟨rfl, rfl⟩
  go_upto_region 4 with fail
  refine region_inv (l := _) 17 (RInv w.heap.size w 33 1 _ 17 (fun i => 11 + i) (spDel r 1 l.length k a1 c (keysR l))) mixed (by decide) (by kernel_rfl) (by kernel_rfl) (by kernel_rfl) (by kernel_rfl) (RInv.start _) ?_ ?_
  · intro listed a W i hi hsz HI hr
    have hsz' : i < listed.size := by rw [hsz]; show i < 20; omega
    have dinj : ∀ j k, j < 17 → k < 17 → j ≠ k → (fun i => 11 + i) j ≠ (fun i => 11 + i) k := fun j k _ _ h e => h (Nat.add_left_cancel e)
    have hd : ∀ j, j < 17 → (fun i => 11 + i) j < 49 := fun j hj => (by omega : 11 + j < 49)
    have e0 : a.tmps[0]?.getD undef = .pointer (some ⟨r, 0, none⟩) := raw (HI.keep 0 (fun j _ => (by omega : 11 + j ≠ 0)))
    have e5 : a.tmps[5]?.getD undef = .int .i64 k := raw (HI.keep 5 (fun j _ => (by omega : 11 + j ≠ 5)))
    have c1 : W.cell? ⟨r, 1, none⟩ = some (.slice (some a1) l.length c) := (HI.bel.cell (block_lt_of_cell q1)).trans q1
    have bW : Below w.heap.size w W := HI.bel
    match i, hi with
    | 0, hi =>
      refine HI.quiet hi hsz' dinj hd rfl rfl rfl (fun K h => ?_)
      simp [go_sem, e0]
      exact h
    | 1, hi =>
      refine HI.build rfl hi hsz' dinj hd rfl rfl rfl rfl (by decide) (fun K h => ?_)
      simp [go_sem]
      exact h
    | 2, hi =>
      refine HI.quiet hi hsz' dinj hd rfl rfl rfl (fun K h => ?_)
      simp [go_sem, e0]
      exact h
    | 3, hi =>
      have d2 := raw (HI.qs 2 _ (by decide) (dep hr 2 (by kernel_rfl)) rfl)
      refine HI.quiet hi hsz' dinj hd rfl rfl rfl (fun K h => ?_)
      simp [go_sem, d2]
      exact h
    | 4, hi =>
      have d3 := raw (HI.qs 3 _ (by decide) (dep hr 3 (by kernel_rfl)) rfl)
      refine HI.quiet hi hsz' dinj hd rfl rfl rfl (fun K h => ?_)
      simp [go_sem, d3]
      exact h
    | 5, hi =>
      have d4 := raw (HI.qs 4 _ (by decide) (dep hr 4 (by kernel_rfl)) rfl)
      refine HI.quiet hi hsz' dinj hd rfl rfl rfl (fun K h => ?_)
      simp [go_sem, d4, c1]
      exact h
    | 6, hi =>
      refine HI.quiet hi hsz' dinj hd rfl rfl rfl (fun K h => ?_)
      simp [go_sem, e5]
      exact h
    | 7, hi =>
      have d5 := raw (HI.qs 5 _ (by decide) (dep hr 5 (by kernel_rfl)) rfl)
      have d6 := raw (HI.qs 6 _ (by decide) (dep hr 6 (by kernel_rfl)) rfl)
      refine HI.quiet hi hsz' dinj hd rfl rfl rfl (fun K h => ?_)
      simp [go_sem, d5, d6, hkc]
      exact h
    | 8, hi =>
      have hun := getD_both (mem_ready.1 hr).1
      have hu := HI.qs 7 _ (by decide) (dep hr 7 (by kernel_rfl)) rfl
      refine HI.append rfl hi hsz' dinj hd (j1 := 1) (by decide) (dep hr 1 (by kernel_rfl)) rfl hun (by decide) rfl rfl (.tmp 18) _ _ rfl rfl _ hu rfl (fun v hv => app_u64' _ _ v _ _ hv _ _ _ (k0.below bW) (by omega) (by have := HI.bel.size; exact this))
    | 9, hi =>
      refine HI.quiet hi hsz' dinj hd rfl rfl rfl (fun K h => ?_)
      simp [go_sem, e0]
      exact h
    | 10, hi =>
      have d9 := raw (HI.qs 9 _ (by decide) (dep hr 9 (by kernel_rfl)) rfl)
      refine HI.quiet hi hsz' dinj hd rfl rfl rfl (fun K h => ?_)
      simp [go_sem, d9]
      exact h
    | 11, hi =>
      have d10 := raw (HI.qs 10 _ (by decide) (dep hr 10 (by kernel_rfl)) rfl)
      refine HI.quiet hi hsz' dinj hd rfl rfl rfl (fun K h => ?_)
      simp [go_sem, d10]
      exact h
    | 12, hi =>
      have d11 := raw (HI.qs 11 _ (by decide) (dep hr 11 (by kernel_rfl)) rfl)
      refine HI.quiet hi hsz' dinj hd rfl rfl rfl (fun K h => ?_)
      simp [go_sem, d11, c1]
      exact h
    | 13, hi =>
      refine HI.quiet hi hsz' dinj hd rfl rfl rfl (fun K h => ?_)
      simp [go_sem, e5]
      exact h
    | 14, hi =>
      have d13 := raw (HI.qs 13 _ (by decide) (dep hr 13 (by kernel_rfl)) rfl)
      refine HI.quiet hi hsz' dinj hd rfl rfl rfl (fun K h => ?_)
      simp [go_sem, d13, hw]
      exact h
    | 15, hi =>
      have d12 := raw (HI.qs 12 _ (by decide) (dep hr 12 (by kernel_rfl)) rfl)
      have d14 := raw (HI.qs 14 _ (by decide) (dep hr 14 (by kernel_rfl)) rfl)
      refine HI.quiet hi hsz' dinj hd rfl rfl rfl (fun K h => ?_)
      simp [go_sem, d12, d14, hk3, hk4]
      exact h
    | 16, hi =>
      have hun := getD_both (mem_ready.1 hr).1
      have hu := HI.qs 15 _ (by decide) (dep hr 15 (by kernel_rfl)) rfl
      refine HI.append rfl hi hsz' dinj hd (j1 := 8) (by decide) (dep hr 8 (by kernel_rfl)) rfl hun (by decide) rfl rfl (.tmp 26) _ _ rfl rfl _ hu rfl (fun v hv => app_u64' _ _ v _ _ hv _ _ _ (k1.below bW) (by omega) (by have := HI.bel.size; exact this))
    | k + 17, hi => exact absurd hi (by omega)
  · intro listed a W hall hsz HI
    have hout : listed.getD 999 false = false := by
      have : listed.size = 20 := hsz
      simp [this]
    have r16 := HI.rs 16 _ _ 999 (by decide) (hall 16 (by decide)) rfl hout
    have s0 : a.tmps.getD 11 undef = .pointer (some ⟨r, 0, none⟩) := HI.qs 0 _ (by decide) (hall 0 (by decide)) rfl
    have h62 : a.tmps.size = 49 := HI.size
    have hdf : a.defers = [] := HI.defers
    have bW : Below w.heap.size w W := HI.bel
    have t0 : a.tmps.getD 0 undef = .pointer (some ⟨r, 0, none⟩) := HI.keep 0 (fun j _ => (by omega : 11 + j ≠ 0))
    have t5 : a.tmps.getD 5 undef = .int .i64 k := HI.keep 5 (fun j _ => (by omega : 11 + j ≠ 5))
    clear HI hall hsz hout
    obtain ⟨⟨ts⟩, df⟩ := a
    have hz : ts.length = 49 := h62
    obtain rfl : df = [] := hdf
    clear h62
    obtain ⟨u0, ts0, rfl, hz0⟩ := cons_of hz
    clear hz
    obtain ⟨u1, ts1, rfl, hz1⟩ := cons_of hz0
    clear hz0
    obtain ⟨u2, ts2, rfl, hz2⟩ := cons_of hz1
    clear hz1
    obtain ⟨u3, ts3, rfl, hz3⟩ := cons_of hz2
    clear hz2
    obtain ⟨u4, ts4, rfl, hz4⟩ := cons_of hz3
    clear hz3
    obtain ⟨u5, ts5, rfl, hz5⟩ := cons_of hz4
    clear hz4
    obtain ⟨u6, ts6, rfl, hz6⟩ := cons_of hz5
    clear hz5
    obtain ⟨u7, ts7, rfl, hz7⟩ := cons_of hz6
    clear hz6
    obtain ⟨u8, ts8, rfl, hz8⟩ := cons_of hz7
    clear hz7
    obtain ⟨u9, ts9, rfl, hz9⟩ := cons_of hz8
    clear hz8
    obtain ⟨u10, ts10, rfl, hz10⟩ := cons_of hz9
    clear hz9
    obtain ⟨u11, ts11, rfl, hz11⟩ := cons_of hz10
    clear hz10
    obtain ⟨u12, ts12, rfl, hz12⟩ := cons_of hz11
    clear hz11
    obtain ⟨u13, ts13, rfl, hz13⟩ := cons_of hz12
    clear hz12
    obtain ⟨u14, ts14, rfl, hz14⟩ := cons_of hz13
    clear hz13
    obtain ⟨u15, ts15, rfl, hz15⟩ := cons_of hz14
    clear hz14
    obtain ⟨u16, ts16, rfl, hz16⟩ := cons_of hz15
    clear hz15
    obtain ⟨u17, ts17, rfl, hz17⟩ := cons_of hz16
    clear hz16
    obtain ⟨u18, ts18, rfl, hz18⟩ := cons_of hz17
    clear hz17
    obtain ⟨u19, ts19, rfl, hz19⟩ := cons_of hz18
    clear hz18
    obtain ⟨u20, ts20, rfl, hz20⟩ := cons_of hz19
    clear hz19
    obtain ⟨u21, ts21, rfl, hz21⟩ := cons_of hz20
    clear hz20
    obtain ⟨u22, ts22, rfl, hz22⟩ := cons_of hz21
    clear hz21
    obtain ⟨u23, ts23, rfl, hz23⟩ := cons_of hz22
    clear hz22
    obtain ⟨u24, ts24, rfl, hz24⟩ := cons_of hz23
    clear hz23
    obtain ⟨u25, ts25, rfl, hz25⟩ := cons_of hz24
    clear hz24
    obtain ⟨u26, ts26, rfl, hz26⟩ := cons_of hz25
    clear hz25
    obtain ⟨u27, ts27, rfl, hz27⟩ := cons_of hz26
    clear hz26
    obtain ⟨u28, ts28, rfl, hz28⟩ := cons_of hz27
    clear hz27
    obtain ⟨u29, ts29, rfl, hz29⟩ := cons_of hz28
    clear hz28
    obtain ⟨u30, ts30, rfl, hz30⟩ := cons_of hz29
    clear hz29
    obtain ⟨u31, ts31, rfl, hz31⟩ := cons_of hz30
    clear hz30
    obtain ⟨u32, ts32, rfl, hz32⟩ := cons_of hz31
    clear hz31
    obtain ⟨u33, ts33, rfl, hz33⟩ := cons_of hz32
    clear hz32
    obtain ⟨u34, ts34, rfl, hz34⟩ := cons_of hz33
    clear hz33
    obtain ⟨u35, ts35, rfl, hz35⟩ := cons_of hz34
    clear hz34
    obtain ⟨u36, ts36, rfl, hz36⟩ := cons_of hz35
    clear hz35
    obtain ⟨u37, ts37, rfl, hz37⟩ := cons_of hz36
    clear hz36
    obtain ⟨u38, ts38, rfl, hz38⟩ := cons_of hz37
    clear hz37
    obtain ⟨u39, ts39, rfl, hz39⟩ := cons_of hz38
    clear hz38
    obtain ⟨u40, ts40, rfl, hz40⟩ := cons_of hz39
    clear hz39
    obtain ⟨u41, ts41, rfl, hz41⟩ := cons_of hz40
    clear hz40
    obtain ⟨u42, ts42, rfl, hz42⟩ := cons_of hz41
    clear hz41
    obtain ⟨u43, ts43, rfl, hz43⟩ := cons_of hz42
    clear hz42
    obtain ⟨u44, ts44, rfl, hz44⟩ := cons_of hz43
    clear hz43
    obtain ⟨u45, ts45, rfl, hz45⟩ := cons_of hz44
    clear hz44
    obtain ⟨u46, ts46, rfl, hz46⟩ := cons_of hz45
    clear hz45
    obtain ⟨u47, ts47, rfl, hz47⟩ := cons_of hz46
    clear hz46
    obtain ⟨u48, ts48, rfl, hz48⟩ := cons_of hz47
    clear hz47
    obtain rfl := List.length_eq_zero_iff.1 hz48
    clear hz48
    obtain rfl : u11 = .pointer (some ⟨r, 0, none⟩) := s0
    obtain rfl : u0 = .pointer (some ⟨r, 0, none⟩) := t0
    obtain rfl : u5 = .int .i64 k := t5
    have R16 : W.ownsRow w.heap.size 33 1 u27 (l.length - 1) (ints (keysR (l.take k ++ l.drop (k + 1)))) := by
      have : W.ownsRow w.heap.size 33 1 u27 (0 + k + (l.length - (k + 1))) (([] ++ ints ((keysR l).take k)) ++ ints ((keysR l).drop (k + 1))) := r16
      rw [show l.length - 1 = 0 + k + (l.length - (k + 1)) by omega, keysR, List.map_append, ints_app, List.map_take, List.map_drop]
      exact this
    clear r16
    obtain ⟨p5, c5, rfl, _, _, m5, _⟩ := u64_row R16
    have b1 := HX.out.2.1.below bW
    have d1 := b1.cell 1
    have f1 := b1.free 1
    have b2 := b1.set_ 1 (.slice p5 (l.length - 1) c5)
    have q2' := b2.cell 2
    have bC : Chg (fun i => i = r) w (W.setCell ⟨r, 1, none⟩ (.slice p5 (l.length - 1) c5)) := (Chg.of bW : Chg (fun i => i = r) w W).set_ (b := r) rfl _ _
    have hrl := HX.out.1.lt r HX.out.1.own
    have kk0 : ArgAt (W.setCell ⟨r, 1, none⟩ (.slice p5 (l.length - 1) c5)) 1 (.slice (some a2) k c2) k (ints ((valsR l).take k)) := arg_take (owns_chg bC HX.out.2.2.2.1 fun i hi => (HX.out.2.2.2.2.2 i hi).2) hkl
    have kk1 := arg_drop (owns_chg bC HX.out.2.2.2.1 fun i hi => (HX.out.2.2.2.2.2 i hi).2) hkl hc2
    have R16' := owns_chg' (S := fun i => i = r) ((Chg.refl (fun i => i = r) W).set_ (b := r) rfl 1 (.slice p5 (l.length - 1) c5)) R16 (fun i hi e => by have := m5 i hi; omega)
    generalize hV : W.setCell ⟨r, 1, none⟩ (.slice p5 (l.length - 1) c5) = V at bC b2 q2' kk0 kk1 R16'
    have HY := Lib.hid (And.intro R16' (And.intro m5 (And.intro b2 bC)))
    clear R16 R16' m5 b2 b1 bC
    simp only [List.drop_succ_cons, List.drop_zero]
    go_upto_region 5 with fail
    refine region_inv (l := _) 17 (RInv V.heap.size V 33 1 _ 17 (fun i => 30 + i) (spDel r 2 l.length k a2 c2 (valsR l))) mixed (by decide) (by kernel_rfl) (by kernel_rfl) (by kernel_rfl) (by kernel_rfl) (RInv.start _) ?_ ?_
    · intro listed a W i hi hsz HI hr
      have hsz' : i < listed.size := by rw [hsz]; show i < 20; omega
      have dinj : ∀ j k, j < 17 → k < 17 → j ≠ k → (fun i => 30 + i) j ≠ (fun i => 30 + i) k := fun j k _ _ h e => h (Nat.add_left_cancel e)
      have hd : ∀ j, j < 17 → (fun i => 30 + i) j < 49 := fun j hj => (by omega : 30 + j < 49)
      have e0 : a.tmps[0]?.getD undef = .pointer (some ⟨r, 0, none⟩) := raw (HI.keep 0 (fun j _ => (by omega : 30 + j ≠ 0)))
      have e5 : a.tmps[5]?.getD undef = .int .i64 k := raw (HI.keep 5 (fun j _ => (by omega : 30 + j ≠ 5)))
      have c1 : W.cell? ⟨r, 2, none⟩ = some (.slice (some a2) l.length c2) := (HI.bel.cell (block_lt_of_cell q2')).trans q2'
      have bW : Below V.heap.size V W := HI.bel
      match i, hi with
      | 0, hi =>
        refine HI.quiet hi hsz' dinj hd rfl rfl rfl (fun K h => ?_)
        simp [go_sem, e0]
        exact h
      | 1, hi =>
        refine HI.build rfl hi hsz' dinj hd rfl rfl rfl rfl (by decide) (fun K h => ?_)
        simp [go_sem]
        exact h
      | 2, hi =>
        refine HI.quiet hi hsz' dinj hd rfl rfl rfl (fun K h => ?_)
        simp [go_sem, e0]
        exact h
      | 3, hi =>
        have d2 := raw (HI.qs 2 _ (by decide) (dep hr 2 (by kernel_rfl)) rfl)
        refine HI.quiet hi hsz' dinj hd rfl rfl rfl (fun K h => ?_)
        simp [go_sem, d2]
        exact h
      | 4, hi =>
        have d3 := raw (HI.qs 3 _ (by decide) (dep hr 3 (by kernel_rfl)) rfl)
        refine HI.quiet hi hsz' dinj hd rfl rfl rfl (fun K h => ?_)
        simp [go_sem, d3]
        exact h
      | 5, hi =>
        have d4 := raw (HI.qs 4 _ (by decide) (dep hr 4 (by kernel_rfl)) rfl)
        refine HI.quiet hi hsz' dinj hd rfl rfl rfl (fun K h => ?_)
        simp [go_sem, d4, c1]
        exact h
      | 6, hi =>
        refine HI.quiet hi hsz' dinj hd rfl rfl rfl (fun K h => ?_)
        simp [go_sem, e5]
        exact h
      | 7, hi =>
        have d5 := raw (HI.qs 5 _ (by decide) (dep hr 5 (by kernel_rfl)) rfl)
        have d6 := raw (HI.qs 6 _ (by decide) (dep hr 6 (by kernel_rfl)) rfl)
        refine HI.quiet hi hsz' dinj hd rfl rfl rfl (fun K h => ?_)
        simp [go_sem, d5, d6, hkc2]
        exact h
      | 8, hi =>
        have hun := getD_both (mem_ready.1 hr).1
        have hu := HI.qs 7 _ (by decide) (dep hr 7 (by kernel_rfl)) rfl
        refine HI.append rfl hi hsz' dinj hd (j1 := 1) (by decide) (dep hr 1 (by kernel_rfl)) rfl hun (by decide) rfl rfl (.tmp 37) _ _ rfl rfl _ hu rfl (fun v hv => app_u64' _ _ v _ _ hv _ _ _ (kk0.below bW) (by omega) (by have := HI.bel.size; exact this))
      | 9, hi =>
        refine HI.quiet hi hsz' dinj hd rfl rfl rfl (fun K h => ?_)
        simp [go_sem, e0]
        exact h
      | 10, hi =>
        have d9 := raw (HI.qs 9 _ (by decide) (dep hr 9 (by kernel_rfl)) rfl)
        refine HI.quiet hi hsz' dinj hd rfl rfl rfl (fun K h => ?_)
        simp [go_sem, d9]
        exact h
      | 11, hi =>
        have d10 := raw (HI.qs 10 _ (by decide) (dep hr 10 (by kernel_rfl)) rfl)
        refine HI.quiet hi hsz' dinj hd rfl rfl rfl (fun K h => ?_)
        simp [go_sem, d10]
        exact h
      | 12, hi =>
        have d11 := raw (HI.qs 11 _ (by decide) (dep hr 11 (by kernel_rfl)) rfl)
        refine HI.quiet hi hsz' dinj hd rfl rfl rfl (fun K h => ?_)
        simp [go_sem, d11, c1]
        exact h
      | 13, hi =>
        refine HI.quiet hi hsz' dinj hd rfl rfl rfl (fun K h => ?_)
        simp [go_sem, e5]
        exact h
      | 14, hi =>
        have d13 := raw (HI.qs 13 _ (by decide) (dep hr 13 (by kernel_rfl)) rfl)
        refine HI.quiet hi hsz' dinj hd rfl rfl rfl (fun K h => ?_)
        simp [go_sem, d13, hw]
        exact h
      | 15, hi =>
        have d12 := raw (HI.qs 12 _ (by decide) (dep hr 12 (by kernel_rfl)) rfl)
        have d14 := raw (HI.qs 14 _ (by decide) (dep hr 14 (by kernel_rfl)) rfl)
        refine HI.quiet hi hsz' dinj hd rfl rfl rfl (fun K h => ?_)
        simp [go_sem, d12, d14, hk3, hk4]
        exact h
      | 16, hi =>
        have hun := getD_both (mem_ready.1 hr).1
        have hu := HI.qs 15 _ (by decide) (dep hr 15 (by kernel_rfl)) rfl
        refine HI.append rfl hi hsz' dinj hd (j1 := 8) (by decide) (dep hr 8 (by kernel_rfl)) rfl hun (by decide) rfl rfl (.tmp 45) _ _ rfl rfl _ hu rfl (fun v hv => app_u64' _ _ v _ _ hv _ _ _ (kk1.below bW) (by omega) (by have := HI.bel.size; exact this))
      | k + 17, hi => exact absurd hi (by omega)
    · intro listed a W hall hsz HI
      have hout : listed.getD 999 false = false := by
        have : listed.size = 20 := hsz
        simp [this]
      have r16 := HI.rs 16 _ _ 999 (by decide) (hall 16 (by decide)) rfl hout
      have s0 : a.tmps.getD 30 undef = .pointer (some ⟨r, 0, none⟩) := HI.qs 0 _ (by decide) (hall 0 (by decide)) rfl
      have h62 : a.tmps.size = 49 := HI.size
      have hdf : a.defers = [] := HI.defers
      have bW : Below V.heap.size V W := HI.bel
      clear HI hall hsz hout
      obtain ⟨⟨ts⟩, df⟩ := a
      have hz : ts.length = 49 := h62
      obtain rfl : df = [] := hdf
      clear h62
      obtain ⟨v0, ts0, rfl, hz0⟩ := cons_of hz
      clear hz
      obtain ⟨v1, ts1, rfl, hz1⟩ := cons_of hz0
      clear hz0
      obtain ⟨v2, ts2, rfl, hz2⟩ := cons_of hz1
      clear hz1
      obtain ⟨v3, ts3, rfl, hz3⟩ := cons_of hz2
      clear hz2
      obtain ⟨v4, ts4, rfl, hz4⟩ := cons_of hz3
      clear hz3
      obtain ⟨v5, ts5, rfl, hz5⟩ := cons_of hz4
      clear hz4
      obtain ⟨v6, ts6, rfl, hz6⟩ := cons_of hz5
      clear hz5
      obtain ⟨v7, ts7, rfl, hz7⟩ := cons_of hz6
      clear hz6
      obtain ⟨v8, ts8, rfl, hz8⟩ := cons_of hz7
      clear hz7
      obtain ⟨v9, ts9, rfl, hz9⟩ := cons_of hz8
      clear hz8
      obtain ⟨v10, ts10, rfl, hz10⟩ := cons_of hz9
      clear hz9
      obtain ⟨v11, ts11, rfl, hz11⟩ := cons_of hz10
      clear hz10
      obtain ⟨v12, ts12, rfl, hz12⟩ := cons_of hz11
      clear hz11
      obtain ⟨v13, ts13, rfl, hz13⟩ := cons_of hz12
      clear hz12
      obtain ⟨v14, ts14, rfl, hz14⟩ := cons_of hz13
      clear hz13
      obtain ⟨v15, ts15, rfl, hz15⟩ := cons_of hz14
      clear hz14
      obtain ⟨v16, ts16, rfl, hz16⟩ := cons_of hz15
      clear hz15
      obtain ⟨v17, ts17, rfl, hz17⟩ := cons_of hz16
      clear hz16
      obtain ⟨v18, ts18, rfl, hz18⟩ := cons_of hz17
      clear hz17
      obtain ⟨v19, ts19, rfl, hz19⟩ := cons_of hz18
      clear hz18
      obtain ⟨v20, ts20, rfl, hz20⟩ := cons_of hz19
      clear hz19
      obtain ⟨v21, ts21, rfl, hz21⟩ := cons_of hz20
      clear hz20
      obtain ⟨v22, ts22, rfl, hz22⟩ := cons_of hz21
      clear hz21
      obtain ⟨v23, ts23, rfl, hz23⟩ := cons_of hz22
      clear hz22
      obtain ⟨v24, ts24, rfl, hz24⟩ := cons_of hz23
      clear hz23
      obtain ⟨v25, ts25, rfl, hz25⟩ := cons_of hz24
      clear hz24
      obtain ⟨v26, ts26, rfl, hz26⟩ := cons_of hz25
      clear hz25
      obtain ⟨v27, ts27, rfl, hz27⟩ := cons_of hz26
      clear hz26
      obtain ⟨v28, ts28, rfl, hz28⟩ := cons_of hz27
      clear hz27
      obtain ⟨v29, ts29, rfl, hz29⟩ := cons_of hz28
      clear hz28
      obtain ⟨v30, ts30, rfl, hz30⟩ := cons_of hz29
      clear hz29
      obtain ⟨v31, ts31, rfl, hz31⟩ := cons_of hz30
      clear hz30
      obtain ⟨v32, ts32, rfl, hz32⟩ := cons_of hz31
      clear hz31
      obtain ⟨v33, ts33, rfl, hz33⟩ := cons_of hz32
      clear hz32
      obtain ⟨v34, ts34, rfl, hz34⟩ := cons_of hz33
      clear hz33
      obtain ⟨v35, ts35, rfl, hz35⟩ := cons_of hz34
      clear hz34
      obtain ⟨v36, ts36, rfl, hz36⟩ := cons_of hz35
      clear hz35
      obtain ⟨v37, ts37, rfl, hz37⟩ := cons_of hz36
      clear hz36
      obtain ⟨v38, ts38, rfl, hz38⟩ := cons_of hz37
      clear hz37
      obtain ⟨v39, ts39, rfl, hz39⟩ := cons_of hz38
      clear hz38
      obtain ⟨v40, ts40, rfl, hz40⟩ := cons_of hz39
      clear hz39
      obtain ⟨v41, ts41, rfl, hz41⟩ := cons_of hz40
      clear hz40
      obtain ⟨v42, ts42, rfl, hz42⟩ := cons_of hz41
      clear hz41
      obtain ⟨v43, ts43, rfl, hz43⟩ := cons_of hz42
      clear hz42
      obtain ⟨v44, ts44, rfl, hz44⟩ := cons_of hz43
      clear hz43
      obtain ⟨v45, ts45, rfl, hz45⟩ := cons_of hz44
      clear hz44
      obtain ⟨v46, ts46, rfl, hz46⟩ := cons_of hz45
      clear hz45
      obtain ⟨v47, ts47, rfl, hz47⟩ := cons_of hz46
      clear hz46
      obtain ⟨v48, ts48, rfl, hz48⟩ := cons_of hz47
      clear hz47
      obtain rfl := List.length_eq_zero_iff.1 hz48
      clear hz48
      obtain rfl : v30 = .pointer (some ⟨r, 0, none⟩) := s0
      have R16 : W.ownsRow V.heap.size 33 1 v46 (l.length - 1) (ints (valsR (l.take k ++ l.drop (k + 1)))) := by
        have : W.ownsRow V.heap.size 33 1 v46 (0 + k + (l.length - (k + 1))) (([] ++ ints ((valsR l).take k)) ++ ints ((valsR l).drop (k + 1))) := r16
        rw [show l.length - 1 = 0 + k + (l.length - (k + 1)) by omega, valsR, List.map_append, ints_app, List.map_take, List.map_drop]
        exact this
      clear r16
      obtain ⟨p6, c6, rfl, _, _, m6, _⟩ := u64_row R16
      have b1 := HY.out.2.2.1.below bW
      have d1 := b1.cell 2
      have f1 := b1.free 2
      have HZ := Lib.hid (And.intro R16 (And.intro m6 (And.intro b1 bW)))
      clear R16 m6 b1 bW
      simp only [List.drop_succ_cons, List.drop_zero]
      go_wp2_with fail
      go_ret
      obtain ⟨R16, m6, b1, bW⟩ := HZ.out
      obtain ⟨R5, m5, b2, bC⟩ := HY.out
      obtain ⟨H, h1, h2, h3, h4, h5⟩ := HX.out
      have hr := H.lt r H.own
      have hs := bW.size
      have hs1 := bC.size
      have hW : Chg (fun i => i = r) W (W.setCell ⟨r, 2, none⟩ (.slice p6 (l.length - 1) c6)) := (Chg.refl (fun i => i = r) W).set_ (b := r) rfl _ _
      have hVW : Chg (fun i => i = r) V (W.setCell ⟨r, 2, none⟩ (.slice p6 (l.length - 1) c6)) := (Chg.of bW).trans hW fun i hi => .inl hi
      have hC : Chg (fun i => i = r) w (W.setCell ⟨r, 2, none⟩ (.slice p6 (l.length - 1) c6)) := bC.trans hVW fun i hi => .inl hi
      have hlen : (l.take k ++ l.drop (k + 1)).length = l.length - 1 := by rw [List.length_append, List.length_take, List.length_drop]; omega
      refine ⟨rfl, fun i => T i ∨ (Value.slice p5 (l.length - 1) c5).ownBlock = some i ∨ (Value.slice p6 (l.length - 1) c6).ownBlock = some i, ⟨⟨_, _, b1.set_ 2 _, ?_, ?_, fun i hi => ⟨.inr (.inl hi), by have := m5 i hi; omega⟩, fun i hi => ⟨.inr (.inr hi), by have := m6 i hi; omega⟩⟩, .inl H.own, ?_, by omega⟩, hC, ?_⟩
      · rw [hlen]
        exact owns_chg hVW (owns0 R5) fun i hi c => by have := m5 i hi; omega
      · rw [hlen]
        exact owns_chg hW (owns0 R16) fun i hi c => by have := m6 i hi; omega
      · intro i hi
        have hW2 := hW.size
        rcases hi with hi | hi | hi
        · have := H.lt i hi; omega
        · have := (R5.lt i hi).2; omega
        · have := (R16.lt i hi).2; omega
      · intro i hi
        rcases hi with hi | hi | hi
        · exact .inl hi
        · exact .inr (m5 i hi)
        · exact .inr (by have := m6 i hi; omega)

theorem del_first {l : List Pr2} {key : Int} {k : Nat} (hf : FirstAt l key k) : delP key l = l.take k ++ l.drop (k + 1) := by
  induction l generalizing k with
  | nil => exact absurd hf.1 (by simp)
  | cons x l ih =>
    obtain ⟨hk, h1, h2⟩ := hf
    cases k with
    | zero => simp only [List.getElem_cons_zero] at h1; simp [delP, h1]
    | succ k =>
      have hx := h2 0 (by omega)
      simp only [List.getElem_cons_zero] at hx
      simp only [delP]
      rw [if_neg hx, ih ⟨by simpa using hk, by simpa using h1, fun j hj => by simpa using h2 (j + 1) (by omega)⟩]
      simp
theorem look_delN {l : List Pr2} {key : Int} (hn : (keysR l).Nodup) (q : Int) : look (delP key l) q = if q = key then none else look l q := by
  induction l with
  | nil => simp [delP, look]
  | cons x l ih =>
    simp only [keysR, List.map_cons, List.nodup_cons] at hn
    simp only [delP]
    by_cases hx : x.key = key
    · rw [if_pos hx]
      by_cases hq : q = key
      · rw [if_pos hq]
        refine look_none_of fun y hy e => hn.1 ?_
        rw [hx, ← hq, ← e]
        exact List.mem_map.2 ⟨y, hy, rfl⟩
      · rw [if_neg hq]
        simp only [look]
        rw [if_neg (fun e => hq (e.symm.trans hx))]
    · rw [if_neg hx]
      simp only [look]
      rw [ih hn.2]
      by_cases hxq : x.key = q
      · rw [if_pos hxq, if_pos hxq, if_neg (fun e => hx (hxq.trans e))]
      · rw [if_neg hxq, if_neg hxq]
theorem del_sub {l : List Pr2} {key : Int} : List.Sublist (delP key l) l := by
  induction l with
  | nil => exact List.Sublist.refl _
  | cons x l ih =>
    simp only [delP]
    split
    · exact List.sublist_cons_self _ _
    · exact ih.cons_cons _
theorem del_nodup {l : List Pr2} {key : Int} (hn : (keysR l).Nodup) : (keysR (delP key l)).Nodup := hn.sublist (del_sub.map _)
theorem delr_c (T : Nat → Prop) (r : Nat) (most : Int) (l : List Pr2) (key : Int) (w : World) (H : RF w T r most l) :
    Calls Tryd.prog 21 #[.pointer (some ⟨r, 0, none⟩), .int .u64 key] w fun e w' => e = .returned (.bool (look l key).isSome) ∧ ∃ T', RF w' T' r most (delP key l) ∧ Chg (fun i => i = r) w w' ∧ New w T T' := by
  cases hq : look l key with
  | none =>
    refine (delr_none T r most l key w H hq).mono ?_
    rintro e w' ⟨rfl, rfl⟩
    exact ⟨rfl, T, by rw [delP_none hq]; exact H, Chg.refl _ _, fun i hi => .inl hi⟩
  | some v =>
    obtain ⟨k, hk, hf, _⟩ := first_of hq
    refine (delr_hit T r most l key k w H hf).mono ?_
    rintro e w' ⟨rfl, T', g1, g2, g3⟩
    exact ⟨rfl, T', by rw [del_first hf]; exact g1, g2, g3⟩
end Go.Proofs.YtfnnfgiflhpefaaDoor
