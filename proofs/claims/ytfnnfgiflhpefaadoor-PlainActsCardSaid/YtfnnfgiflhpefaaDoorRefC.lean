/-
  The reference of the layer plain (amblerref26): Put at a new key.
-/
import Derived.Test.YtfnnfgiflhpefaaDoorRefB
namespace Go.Proofs.YtfnnfgiflhpefaaDoor
open Go.RowKit Go.Lib

section
theorem headInv_start (l : List Oper) (n : Nat) : HeadInv .any l.toArray n (Array.replicate l.length false) :=
  ⟨by simp, fun j oj _ hl => (by rw [getD_replicate_false] at hl; cases hl), fun t _ ht => getD_in (by simpa using ht) (getD_replicate_false _ _)⟩
theorem RInv.start {B : Nat} {w0 : World} {e : TypeId} {z : Nat} {a0 : Act} {n : Nat} {d : Nat → Nat} {sp : Nat → Sp} (k : Nat) : RInv B w0 e z a0 n d sp (Array.replicate k false) a0 w0.drew :=
  ⟨rfl, rfl, fun _ _ => rfl, (Below.refl _ _).drew, fun j v _ h => (by rw [getD_replicate_false] at h; cases h), fun j m xs c _ h => (by rw [getD_replicate_false] at h; cases h), fun j k m xs c m' xs' c' _ _ _ h => (by rw [getD_replicate_false] at h; cases h)⟩
end
theorem app_u64' {w : World} (base : Nat) (ty : TypeId) (v : Value) (n : Nat) (xs : List Value) (hown : w.ownsRow base 33 1 v n xs) (u : Value) (m : Nat) (ys : List Int) (hu : ArgAt w 1 u m (ints ys)) (hn : n + m ≤ 3000) (hbase : base ≤ w.heap.size) :
    ∃ v' w', (Builtin.append_ #[40, 40] ty #[v, u]).run Tryd.prog w = .ok v' w' ∧ w'.ownsRow base 33 1 v' (n + m) (xs ++ ints ys) ∧ w.grownBy w' v.ownBlock ∧ (v'.ownBlock = v.ownBlock ∨ v'.ownBlock = some w.heap.size) := by
  obtain ⟨i, hi, hz, hs, hb⟩ := info_u64
  exact app_arg base _ ty _ i _ 1 8 Tryd.underlying40 hi hz hs hb rfl (by omega) (by omega) v n _ hown u m _ hu (ints_one _) hn hbase

theorem raw {a : Act} {s : Nat} {v : Value} (h : a.eval (.tmp s) = v) : a.tmps[s]?.getD undef = v := by simpa [Act.eval] using h
theorem cons_of {ts : List Value} {n : Nat} (h : ts.length = n + 1) : ∃ u ts', ts = u :: ts' ∧ ts'.length = n := by
  cases ts with
  | nil => cases h
  | cons u ts => exact ⟨u, ts, rfl, by simpa using h⟩
theorem mem_of_contains {l : List Nat} {i : Nat} (h : l.contains i = true) : i ∈ l := by simpa using h
theorem RInv.advq {B : Nat} {w0 : World} {e : TypeId} {z : Nat} {a0 : Act} {n : Nat} {d : Nat → Nat} {sp : Nat → Sp} {listed : Array Bool} {a : Act} {w : World} {i : Nat} (H : RInv B w0 e z a0 n d sp listed a w) (hi : i < n) (hsz : i < listed.size) (dinj : ∀ j k, j < n → k < n → j ≠ k → d j ≠ d k) (hd : ∀ j, j < n → d j < a0.tmps.size) (v : Value) (hsp : sp i = .q v) :
    RInv B w0 e z a0 n d sp (listed.setIfInBounds i true) (a.put (some (d i)) v) w :=
  H.adv hi hsz dinj hd v H.bel (fun u h => by rw [hsp] at h; injection h) (fun m xs c h => by rw [hsp] at h; cases h) (fun k m xs c _ _ _ _ _ _ h => h) (fun m xs c _ _ _ _ h => by rw [hsp] at h; cases h)

/-- What the operations of the region hand back. -/
def spPut (r n : Nat) (vk vv : Value) (ks vs : List Int) (key val : Int) (i : Nat) : Sp :=
  ([.q (.pointer (some ⟨r, 0, none⟩)), .q (.pointer (some ⟨r, 0, none⟩)), .r 0 [] 7, .q (.pointer (some ⟨r, 0, none⟩)), .q (.pointer (some ⟨r, 0, none⟩)), .q (.pointer (some ⟨r, 1, none⟩)), .q vk, .r (0 + n) ([] ++ ints ks) 10, .q (.int .u64 key), .r 1 (ints [key]) 10,
    .r (0 + n + 1) (([] ++ ints ks) ++ ints [key]) 999, .r 0 [] 16, .q (.pointer (some ⟨r, 0, none⟩)), .q (.pointer (some ⟨r, 0, none⟩)), .q (.pointer (some ⟨r, 2, none⟩)), .q vv, .r (0 + n) ([] ++ ints vs) 19, .q (.int .u64 val), .r 1 (ints [val]) 19,
    .r (0 + n + 1) (([] ++ ints vs) ++ ints [val]) 999] : List Sp).getD i (.q undef)

set_option maxHeartbeats 1000000 in
set_option maxRecDepth 100000 in
theorem putr_new (T : Nat → Prop) (r : Nat) (most : Int) (l : List Pr2) (key val : Int) (w : World) (H : RF w T r most l) (hq : look l key = none) (hm : (l.length : Int) < most) (hl : l.length < 1000) :
    Calls Tryd.prog 20 #[.pointer (some ⟨r, 0, none⟩), .int .u64 key, .int .u64 val] w fun e w' => e = .returned (.int .i64 0) ∧ ∃ T', RF w' T' r most (l ++ [⟨key, val⟩]) ∧ Chg (fun i => i = r) w w' ∧ New w T T' := by
  have HF := Lib.hid (findr_none T r most l key w H hq)
  obtain ⟨vk, vv, h1, h2, h3, h4, h5⟩ := H.ex
  obtain ⟨p, c, rfl, _⟩ := u64_row h2
  obtain ⟨p2, c2, rfl, _⟩ := u64_row h3
  have q0 := h1.cell 0
  have q1 := h1.cell 1
  have q2 := h1.cell 2
  have hge : decide (most ≤ (l.length : Int)) = false := decide_eq_false (by omega)
  have mixed : Tryd.prog.follows .mixedOrders = true := by kernel_rfl
  have HX := Lib.hid (And.intro H (And.intro h1 (And.intro h2 (And.intro h3 (And.intro h4 h5)))))
  clear h1 h2 h3 h4 h5 hq H
  go_enter Tryd.func20, Tryd.ntmps20
  go_wp2_with fail
  refine HF.out.mono ?_
  rintro e w' ⟨rfl, rfl⟩
  go_upto_region 7 with fail
  go_quiet (fail)
  go_upto_region 9 with fail
  refine wp_region_any mixed ?_
  refine wpAny_take (i := 1) rfl (by kernel_rfl) (by kernel_rfl) (by kernel_rfl) (fun _ _ _ h => h) (.inl ⟨rfl, fun w => rfl⟩) ?_
  have k0 := ArgAt.of_row HX.out.2.2.1
  have v0 := ArgAt.of_row HX.out.2.2.2.1
  have hdr : Below w.heap.size w (w.drewN nq).drew := (below_drewN (Below.refl _ _) _).drew
  refine any_inv (l := _) 20 [1] (RInv w.heap.size (w.drewN nq) 33 1 _ 20 (fun i => 38 + i) (spPut r l.length (.slice p l.length c) (.slice p2 l.length c2) (keysR l) (valsR l) key val)) (by decide) (by kernel_rfl) (by kernel_rfl) (by kernel_rfl) (by kernel_rfl) ?_ ?_ 19 _ _ _ ((headInv_start _ 20).set (mem_of_contains (by kernel_rfl)) (by decide)) (fun i hi => by cases List.mem_singleton.1 hi; kernel_rfl) ((RInv.start _).advq (i := 1) (by decide) (by decide) (fun j k _ _ h e => h (Nat.add_left_cancel e)) (fun j hj => (by omega : 38 + j < 62)) _ rfl) (by decide +kernel)
  · intro listed a W i hi hsz _ HI hr
    have hsz' : i < listed.size := by rw [hsz]; show i < 26; omega
    have dinj : ∀ j k, j < 20 → k < 20 → j ≠ k → (fun i => 38 + i) j ≠ (fun i => 38 + i) k := fun j k _ _ h e => h (Nat.add_left_cancel e)
    have hd : ∀ j, j < 20 → (fun i => 38 + i) j < 62 := fun j hj => (by omega : 38 + j < 62)
    have e0 : a.tmps[0]?.getD undef = .pointer (some ⟨r, 0, none⟩) := raw (HI.keep 0 (fun j _ => (by omega : 38 + j ≠ 0)))
    have e1 : a.tmps[1]?.getD undef = .int .u64 key := raw (HI.keep 1 (fun j _ => (by omega : 38 + j ≠ 1)))
    have e2 : a.tmps[2]?.getD undef = .int .u64 val := raw (HI.keep 2 (fun j _ => (by omega : 38 + j ≠ 2)))
    have c1 : W.cell? ⟨r, 1, none⟩ = some (.slice p l.length c) := (HI.bel.cell (block_lt_of_cell q1)).trans q1
    have c2 : W.cell? ⟨r, 2, none⟩ = some (.slice p2 l.length c2) := (HI.bel.cell (block_lt_of_cell q2)).trans q2
    have bW : Below w.heap.size w W := (below_drewN (Below.refl _ _) _).trans HI.bel
    match i, hi with
    | 0, hi =>
      refine HI.quiet hi hsz' dinj hd rfl rfl rfl (fun K h => ?_)
      simp [go_sem, e0]
      exact h
    | 1, hi =>
      refine HI.quiet hi hsz' dinj hd rfl rfl rfl (fun K h => ?_)
      simp [go_sem, e0]
      exact h
    | 2, hi =>
      refine HI.build rfl hi hsz' dinj hd rfl rfl rfl rfl (by decide) (fun K h => ?_)
      simp [go_sem]
      exact h
    | 3, hi =>
      refine HI.quiet hi hsz' dinj hd rfl rfl rfl (fun K h => ?_)
      simp [go_sem, e0]
      exact h
    | 4, hi =>
      have d3 := raw (HI.qs 3 _ (by decide) (dep hr 3 (by kernel_rfl)) rfl)
      
      refine HI.quiet hi hsz' dinj hd rfl rfl rfl (fun K h => ?_)
      simp [go_sem, d3]
      exact h
    | 5, hi =>
      have d4 := raw (HI.qs 4 _ (by decide) (dep hr 4 (by kernel_rfl)) rfl)
      
      refine HI.quiet hi hsz' dinj hd rfl rfl rfl (fun K h => ?_)
      simp [go_sem, d4]
      exact h
    | 6, hi =>
      have d5 := raw (HI.qs 5 _ (by decide) (dep hr 5 (by kernel_rfl)) rfl)
      
      refine HI.quiet hi hsz' dinj hd rfl rfl rfl (fun K h => ?_)
      simp [go_sem, d5, c1]
      exact h
    | 7, hi =>
      have hun := getD_both (mem_ready.1 hr).1
      have hu := HI.qs 6 _ (by decide) (dep hr 6 (by kernel_rfl)) rfl
      refine HI.append rfl hi hsz' dinj hd (j1 := 2) (by decide) (dep hr 2 (by kernel_rfl)) rfl hun (by decide) rfl rfl (.tmp 44) _ _ rfl rfl _ hu rfl (fun v hv => app_u64' _ _ v _ _ hv _ _ _ (k0.below bW) (by omega) (by have := HI.bel.size; exact this))
    | 8, hi =>
      refine HI.quiet hi hsz' dinj hd rfl rfl rfl (fun K h => ?_)
      simp [go_sem, e1]
      exact h
    | 9, hi =>
      have d8 := raw (HI.qs 8 _ (by decide) (dep hr 8 (by kernel_rfl)) rfl)
      refine HI.build rfl hi hsz' dinj hd rfl rfl rfl rfl (by decide) (fun K h => ?_)
      simp [go_sem, d8]
      exact h
    | 10, hi =>
      have hun := getD_both (mem_ready.1 hr).1
      have hrow := HI.rs 9 1 _ 10 (by decide) (dep hr 9 (by kernel_rfl)) rfl hun
      refine HI.append rfl hi hsz' dinj hd (j1 := 7) (by decide) (dep hr 7 (by kernel_rfl)) rfl hun (by decide) rfl rfl (.tmp 47) _ _ rfl rfl _ rfl rfl (fun v hv => app_u64' _ _ v _ _ hv _ 1 _ (ArgAt.of_row hrow) (by omega) (by have := HI.bel.size; exact this))
    | 11, hi =>
      refine HI.build rfl hi hsz' dinj hd rfl rfl rfl rfl (by decide) (fun K h => ?_)
      simp [go_sem]
      exact h
    | 12, hi =>
      refine HI.quiet hi hsz' dinj hd rfl rfl rfl (fun K h => ?_)
      simp [go_sem, e0]
      exact h
    | 13, hi =>
      have d12 := raw (HI.qs 12 _ (by decide) (dep hr 12 (by kernel_rfl)) rfl)
      
      refine HI.quiet hi hsz' dinj hd rfl rfl rfl (fun K h => ?_)
      simp [go_sem, d12]
      exact h
    | 14, hi =>
      have d13 := raw (HI.qs 13 _ (by decide) (dep hr 13 (by kernel_rfl)) rfl)
      
      refine HI.quiet hi hsz' dinj hd rfl rfl rfl (fun K h => ?_)
      simp [go_sem, d13]
      exact h
    | 15, hi =>
      have d14 := raw (HI.qs 14 _ (by decide) (dep hr 14 (by kernel_rfl)) rfl)
      
      refine HI.quiet hi hsz' dinj hd rfl rfl rfl (fun K h => ?_)
      simp [go_sem, d14, c2]
      exact h
    | 16, hi =>
      have hun := getD_both (mem_ready.1 hr).1
      have hu := HI.qs 15 _ (by decide) (dep hr 15 (by kernel_rfl)) rfl
      refine HI.append rfl hi hsz' dinj hd (j1 := 11) (by decide) (dep hr 11 (by kernel_rfl)) rfl hun (by decide) rfl rfl (.tmp 53) _ _ rfl rfl _ hu rfl (fun v hv => app_u64' _ _ v _ _ hv _ _ _ (v0.below bW) (by omega) (by have := HI.bel.size; exact this))
    | 17, hi =>
      refine HI.quiet hi hsz' dinj hd rfl rfl rfl (fun K h => ?_)
      simp [go_sem, e2]
      exact h
    | 18, hi =>
      have d17 := raw (HI.qs 17 _ (by decide) (dep hr 17 (by kernel_rfl)) rfl)
      refine HI.build rfl hi hsz' dinj hd rfl rfl rfl rfl (by decide) (fun K h => ?_)
      simp [go_sem, d17]
      exact h
    | 19, hi =>
      have hun := getD_both (mem_ready.1 hr).1
      have hrow := HI.rs 18 1 _ 19 (by decide) (dep hr 18 (by kernel_rfl)) rfl hun
      refine HI.append rfl hi hsz' dinj hd (j1 := 16) (by decide) (dep hr 16 (by kernel_rfl)) rfl hun (by decide) rfl rfl (.tmp 56) _ _ rfl rfl _ rfl rfl (fun v hv => app_u64' _ _ v _ _ hv _ 1 _ (ArgAt.of_row hrow) (by omega) (by have := HI.bel.size; exact this))
    | k + 20, hi => exact absurd hi (by omega)
  · intro listed a W hall hsz HI
    have hout : listed.getD 999 false = false := by
      have : listed.size = 26 := hsz
      simp [this]
    have r10 := HI.rs 10 _ _ 999 (by decide) (hall 10 (by decide)) rfl hout
    have r19 := HI.rs 19 _ _ 999 (by decide) (hall 19 (by decide)) rfl hout
    have s38 : a.tmps.getD 38 undef = .pointer (some ⟨r, 0, none⟩) := HI.qs 0 _ (by decide) (hall 0 (by decide)) rfl
    have s39 : a.tmps.getD 39 undef = .pointer (some ⟨r, 0, none⟩) := HI.qs 1 _ (by decide) (hall 1 (by decide)) rfl
    have h62 : a.tmps.size = 62 := HI.size
    have hdf : a.defers = [] := HI.defers
    have bW : Below w.heap.size w W := (below_drewN (Below.refl _ _) _).trans HI.bel
    clear HI hall hsz hout
    obtain ⟨⟨ts⟩, df⟩ := a
    have hz : ts.length = 62 := h62
    obtain rfl : df = [] := hdf
    clear h62
    obtain ⟨u0, ts0, rfl, hz0⟩ := cons_of hz
    clear hz
    obtain ⟨u1, ts1, rfl, hz1⟩ := cons_of hz0
    clear hz0
    obtain ⟨u2, ts2, rfl, hz2⟩ := cons_of hz1
    clear hz1
    obtain ⟨u3, ts3, rfl, hz3⟩ := cons_of hz2
    clear hz2
    obtain ⟨u4, ts4, rfl, hz4⟩ := cons_of hz3
    clear hz3
    obtain ⟨u5, ts5, rfl, hz5⟩ := cons_of hz4
    clear hz4
    obtain ⟨u6, ts6, rfl, hz6⟩ := cons_of hz5
    clear hz5
    obtain ⟨u7, ts7, rfl, hz7⟩ := cons_of hz6
    clear hz6
    obtain ⟨u8, ts8, rfl, hz8⟩ := cons_of hz7
    clear hz7
    obtain ⟨u9, ts9, rfl, hz9⟩ := cons_of hz8
    clear hz8
    obtain ⟨u10, ts10, rfl, hz10⟩ := cons_of hz9
    clear hz9
    obtain ⟨u11, ts11, rfl, hz11⟩ := cons_of hz10
    clear hz10
    obtain ⟨u12, ts12, rfl, hz12⟩ := cons_of hz11
    clear hz11
    obtain ⟨u13, ts13, rfl, hz13⟩ := cons_of hz12
    clear hz12
    obtain ⟨u14, ts14, rfl, hz14⟩ := cons_of hz13
    clear hz13
    obtain ⟨u15, ts15, rfl, hz15⟩ := cons_of hz14
    clear hz14
    obtain ⟨u16, ts16, rfl, hz16⟩ := cons_of hz15
    clear hz15
    obtain ⟨u17, ts17, rfl, hz17⟩ := cons_of hz16
    clear hz16
    obtain ⟨u18, ts18, rfl, hz18⟩ := cons_of hz17
    clear hz17
    obtain ⟨u19, ts19, rfl, hz19⟩ := cons_of hz18
    clear hz18
    obtain ⟨u20, ts20, rfl, hz20⟩ := cons_of hz19
    clear hz19
    obtain ⟨u21, ts21, rfl, hz21⟩ := cons_of hz20
    clear hz20
    obtain ⟨u22, ts22, rfl, hz22⟩ := cons_of hz21
    clear hz21
    obtain ⟨u23, ts23, rfl, hz23⟩ := cons_of hz22
    clear hz22
    obtain ⟨u24, ts24, rfl, hz24⟩ := cons_of hz23
    clear hz23
    obtain ⟨u25, ts25, rfl, hz25⟩ := cons_of hz24
    clear hz24
    obtain ⟨u26, ts26, rfl, hz26⟩ := cons_of hz25
    clear hz25
    obtain ⟨u27, ts27, rfl, hz27⟩ := cons_of hz26
    clear hz26
    obtain ⟨u28, ts28, rfl, hz28⟩ := cons_of hz27
    clear hz27
    obtain ⟨u29, ts29, rfl, hz29⟩ := cons_of hz28
    clear hz28
    obtain ⟨u30, ts30, rfl, hz30⟩ := cons_of hz29
    clear hz29
    obtain ⟨u31, ts31, rfl, hz31⟩ := cons_of hz30
    clear hz30
    obtain ⟨u32, ts32, rfl, hz32⟩ := cons_of hz31
    clear hz31
    obtain ⟨u33, ts33, rfl, hz33⟩ := cons_of hz32
    clear hz32
    obtain ⟨u34, ts34, rfl, hz34⟩ := cons_of hz33
    clear hz33
    obtain ⟨u35, ts35, rfl, hz35⟩ := cons_of hz34
    clear hz34
    obtain ⟨u36, ts36, rfl, hz36⟩ := cons_of hz35
    clear hz35
    obtain ⟨u37, ts37, rfl, hz37⟩ := cons_of hz36
    clear hz36
    obtain ⟨u38, ts38, rfl, hz38⟩ := cons_of hz37
    clear hz37
    obtain ⟨u39, ts39, rfl, hz39⟩ := cons_of hz38
    clear hz38
    obtain ⟨u40, ts40, rfl, hz40⟩ := cons_of hz39
    clear hz39
    obtain ⟨u41, ts41, rfl, hz41⟩ := cons_of hz40
    clear hz40
    obtain ⟨u42, ts42, rfl, hz42⟩ := cons_of hz41
    clear hz41
    obtain ⟨u43, ts43, rfl, hz43⟩ := cons_of hz42
    clear hz42
    obtain ⟨u44, ts44, rfl, hz44⟩ := cons_of hz43
    clear hz43
    obtain ⟨u45, ts45, rfl, hz45⟩ := cons_of hz44
    clear hz44
    obtain ⟨u46, ts46, rfl, hz46⟩ := cons_of hz45
    clear hz45
    obtain ⟨u47, ts47, rfl, hz47⟩ := cons_of hz46
    clear hz46
    obtain ⟨u48, ts48, rfl, hz48⟩ := cons_of hz47
    clear hz47
    obtain ⟨u49, ts49, rfl, hz49⟩ := cons_of hz48
    clear hz48
    obtain ⟨u50, ts50, rfl, hz50⟩ := cons_of hz49
    clear hz49
    obtain ⟨u51, ts51, rfl, hz51⟩ := cons_of hz50
    clear hz50
    obtain ⟨u52, ts52, rfl, hz52⟩ := cons_of hz51
    clear hz51
    obtain ⟨u53, ts53, rfl, hz53⟩ := cons_of hz52
    clear hz52
    obtain ⟨u54, ts54, rfl, hz54⟩ := cons_of hz53
    clear hz53
    obtain ⟨u55, ts55, rfl, hz55⟩ := cons_of hz54
    clear hz54
    obtain ⟨u56, ts56, rfl, hz56⟩ := cons_of hz55
    clear hz55
    obtain ⟨u57, ts57, rfl, hz57⟩ := cons_of hz56
    clear hz56
    obtain ⟨u58, ts58, rfl, hz58⟩ := cons_of hz57
    clear hz57
    obtain ⟨u59, ts59, rfl, hz59⟩ := cons_of hz58
    clear hz58
    obtain ⟨u60, ts60, rfl, hz60⟩ := cons_of hz59
    clear hz59
    obtain ⟨u61, ts61, rfl, hz61⟩ := cons_of hz60
    clear hz60
    obtain rfl := List.length_eq_zero_iff.1 hz61
    clear hz61
    obtain rfl : u38 = .pointer (some ⟨r, 0, none⟩) := s38
    obtain rfl : u39 = .pointer (some ⟨r, 0, none⟩) := s39
    have R10 : W.ownsRow w.heap.size 33 1 u48 (l.length + 1) (ints (keysR (l ++ [⟨key, val⟩]))) := by
      have : W.ownsRow w.heap.size 33 1 u48 (0 + l.length + 1) (([] ++ ints (keysR l)) ++ ints [key]) := r10
      rw [keysR, List.map_append, ints_app]
      simpa [keysR] using this
    have R19 : W.ownsRow w.heap.size 33 1 u57 (l.length + 1) (ints (valsR (l ++ [⟨key, val⟩]))) := by
      have : W.ownsRow w.heap.size 33 1 u57 (0 + l.length + 1) (([] ++ ints (valsR l)) ++ ints [val]) := r19
      rw [valsR, List.map_append, ints_app]
      simpa [valsR] using this

    clear r10 r19
    obtain ⟨p5, c5, rfl, _, _, m5, _⟩ := u64_row R10
    obtain ⟨p6, c6, rfl, _, _, m6, _⟩ := u64_row R19
    have b1 := HX.out.2.1.below bW
    have d1 := b1.cell 1
    have f1 := b1.free 1
    have b2 := b1.set_ 1 (.slice p5 (l.length + 1) c5)
    have d2 := b2.cell 2
    have f2 := b2.free 2
    have HY := Lib.hid (And.intro R10 (And.intro R19 (And.intro m5 (And.intro m6 (And.intro b2 bW)))))
    clear R10 R19 m5 m6 b2 b1 bW
    simp only [List.drop_succ_cons, List.drop_zero]
    go_wp2_with fail
    go_ret
    obtain ⟨R10, R19, m5, m6, b2, bW⟩ := HY.out
    obtain ⟨H, h1, h2, h3, h4, h5⟩ := HX.out
    have hr := H.lt r H.own
    have hs := bW.size
    have hW : Chg (fun i => i = r) W ((W.setCell ⟨r, 1, none⟩ (.slice p5 (l.length + 1) c5)).setCell ⟨r, 2, none⟩ (.slice p6 (l.length + 1) c6)) := ((Chg.refl (fun i => i = r) W).set_ (b := r) rfl _ _).set_ (b := r) rfl _ _
    have hC : Chg (fun i => i = r) w ((W.setCell ⟨r, 1, none⟩ (.slice p5 (l.length + 1) c5)).setCell ⟨r, 2, none⟩ (.slice p6 (l.length + 1) c6)) := (Chg.of bW).trans hW fun i hi => .inl hi
    have hlen : (l ++ [(⟨key, val⟩ : Pr2)]).length = l.length + 1 := by simp
    refine ⟨rfl, fun i => T i ∨ (Value.slice p5 (l.length + 1) c5).ownBlock = some i ∨ (Value.slice p6 (l.length + 1) c6).ownBlock = some i, ⟨⟨_, _, b2.set_ 2 _, ?_, ?_, fun i hi => ⟨.inr (.inl hi), by have := m5 i hi; omega⟩, fun i hi => ⟨.inr (.inr hi), by have := m6 i hi; omega⟩⟩, .inl H.own, ?_, by omega⟩, hC, ?_⟩
    · rw [hlen]
      exact owns_chg hW (owns0 R10) fun i hi c => by have := m5 i hi; omega
    · rw [hlen]
      exact owns_chg hW (owns0 R19) fun i hi c => by have := m6 i hi; omega
    · intro i hi
      have hW2 := hW.size
      rcases hi with hi | hi | hi
      · have := H.lt i hi; omega
      · have := (R10.lt i hi).2; omega
      · have := (R19.lt i hi).2; omega
    · intro i hi
      rcases hi with hi | hi | hi
      · exact .inl hi
      · exact .inr (m5 i hi)
      · exact .inr (m6 i hi)

/-! ### what Put leaves, by its keys -/
theorem look_set {l : List Pr2} {key val : Int} {k : Nat} (hf : FirstAt l key k) (q : Int) : look (l.set k ⟨key, val⟩) q = if q = key then some val else look l q := by
  induction l generalizing k with
  | nil => exact absurd hf.1 (by simp)
  | cons x l ih =>
    obtain ⟨hk, h1, h2⟩ := hf
    cases k with
    | zero =>
      simp only [List.getElem_cons_zero] at h1
      simp only [List.set_cons_zero, look]
      by_cases hq : q = key
      · rw [if_pos hq, if_pos hq.symm]
      · rw [if_neg hq, if_neg (fun e => hq e.symm), if_neg (fun e => hq (e.symm.trans h1))]
    | succ k =>
      have hx := h2 0 (by omega)
      simp only [List.getElem_cons_zero] at hx
      simp only [List.set_cons_succ, look]
      rw [ih ⟨by simpa using hk, by simpa using h1, fun j hj => by simpa using h2 (j + 1) (by omega)⟩]
      by_cases hxq : x.key = q
      · rw [if_pos hxq, if_pos hxq, if_neg (fun e => hx (hxq.trans e))]
      · rw [if_neg hxq, if_neg hxq]
theorem look_appN {l : List Pr2} {key val : Int} (hn : look l key = none) (q : Int) : look (l ++ [⟨key, val⟩]) q = if q = key then some val else look l q := by
  induction l with
  | nil =>
    simp only [List.nil_append, look]
    by_cases hq : q = key
    · rw [if_pos hq, if_pos hq.symm]
    · rw [if_neg hq, if_neg (fun e => hq e.symm)]
  | cons x l ih =>
    simp only [look] at hn
    split at hn
    · cases hn
    · rename_i hx
      simp only [List.cons_append, look]
      rw [ih hn]
      by_cases hxq : x.key = q
      · rw [if_pos hxq, if_pos hxq, if_neg (fun e => hx (hxq.trans e))]
      · rw [if_neg hxq, if_neg hxq]
theorem keys_set {l : List Pr2} {key val : Int} {k : Nat} (hf : FirstAt l key k) : keysR (l.set k ⟨key, val⟩) = keysR l := by
  obtain ⟨hk, h1, _⟩ := hf
  have h9 : (l.map Pr2.key)[k]'(by rw [List.length_map]; exact hk) = key := by rw [List.getElem_map]; exact h1
  rw [keysR, List.map_set]
  show (l.map Pr2.key).set k key = l.map Pr2.key
  rw [← h9]
  exact List.set_getElem_self _
/-- Whether Put has room. -/
def okP (most : Int) (l : List Pr2) (key : Int) : Prop := (look l key).isSome = true ∨ (l.length : Int) < most
/-- A list behind Put. -/
structure PutTo (most : Int) (l : List Pr2) (key val : Int) (l' : List Pr2) : Prop where
  look_ : ∀ q, (okP most l key → look l' q = if q = key then some val else look l q) ∧ (¬ okP most l key → look l' q = look l q)
  len : l'.length = if (look l key).isSome = true then l.length else if (l.length : Int) < most then l.length + 1 else l.length
  nodup : (keysR l).Nodup → (keysR l').Nodup
theorem putr_c (T : Nat → Prop) (r : Nat) (most : Int) (l : List Pr2) (key val : Int) (w : World) (H : RF w T r most l) (hl : l.length < 1000) :
    Calls Tryd.prog 20 #[.pointer (some ⟨r, 0, none⟩), .int .u64 key, .int .u64 val] w fun e w' => e = .returned (.int .i64 (putNo most l key)) ∧ ∃ T' l', PutTo most l key val l' ∧ RF w' T' r most l' ∧ Chg (fun i => i = r) w w' ∧ New w T T' := by
  cases hq : look l key with
  | some v =>
    have h1 : (look l key).isSome = true := by rw [hq]; rfl
    obtain ⟨k, hk, hf, _⟩ := first_of hq
    refine (putr_hit T r most l key val k w H hf).mono ?_
    rintro e w' ⟨rfl, T', g1, g2, g3⟩
    refine ⟨by rw [putNo, if_pos (.inl h1)]; rfl, T', _, ⟨fun q => ⟨fun _ => look_set hf q, fun h => absurd (.inl h1) h⟩, by rw [List.length_set, if_pos h1], fun h => by rw [keys_set hf]; exact h⟩, g1, g2, g3⟩
  | none =>
    have h1 : ¬ (look l key).isSome = true := by rw [hq]; simp
    by_cases hm : (l.length : Int) < most
    · refine (putr_new T r most l key val w H hq hm hl).mono ?_
      rintro e w' ⟨rfl, T', g1, g2, g3⟩
      refine ⟨by rw [putNo, if_pos (.inr hm)]; rfl, T', _, ⟨fun q => ⟨fun _ => look_appN hq q, fun h => absurd (.inr hm) h⟩, by rw [if_neg h1, if_pos hm]; simp, fun h => ?_⟩, g1, g2, g3⟩
      rw [keysR, List.map_append]
      refine List.nodup_append.2 ⟨h, by simp, fun x hx y hy e => ?_⟩
      obtain ⟨z, hz, rfl⟩ := List.mem_map.1 hx
      simp only [List.map_cons, List.map_nil, List.mem_singleton] at hy
      exact none_all hq z hz (e.trans hy)
    · have h2 : ¬ ((look l key).isSome = true ∨ (l.length : Int) < most) := fun c => c.elim h1 hm
      refine (putr_full T r most l key val w H hq (by omega)).mono ?_
      rintro e w' ⟨rfl, g⟩
      exact ⟨by rw [putNo, if_neg h2]; rfl, T, l, ⟨fun q => ⟨fun h => absurd h h2, fun _ => rfl⟩, by rw [if_neg h1, if_neg hm], id⟩, H.below g, Chg.of g, fun i hi => .inl hi⟩
end Go.Proofs.YtfnnfgiflhpefaaDoor
