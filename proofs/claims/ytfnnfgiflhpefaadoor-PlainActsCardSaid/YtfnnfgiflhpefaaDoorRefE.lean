/-
  The reference of the layer plain (amblerref26): Sorted.
-/
import Derived.Test.YtfnnfgiflhpefaaDoorRefD
namespace Go.Proofs.YtfnnfgiflhpefaaDoor
open Go.RowKit Go.Lib

theorem arg2_take {w : World} {B n k g c : Nat} {e : TypeId} {xs : List Pr2} (h : w.ownsRow B e 2 (.slice (some ⟨g, 0, none⟩) n c) n (flat2 xs)) (hk : k ≤ n) : ArgAt w 2 (.slice (some ⟨g, 0, none⟩) k c) k (flat2 (xs.take k)) := by
  have hl := h.1
  rw [flat2_length] at hl
  rcases ArgAt.of_row h with ⟨h0, _⟩ | ⟨a', c', h0, h1, h2⟩
  · cases h0
  · injection h0 with e1 e2 e3
    injection e1 with e1
    subst e1 e3
    refine .inr ⟨_, c, rfl, by rw [flat2_length, List.length_take]; omega, fun j v hj => h2 j v ?_⟩
    rw [← flat2_take _ _ (by omega), List.getElem?_take] at hj
    split at hj
    · exact hj
    · cases hj
theorem arg2_drop {w : World} {B n k g c : Nat} {e : TypeId} {xs : List Pr2} (h : w.ownsRow B e 2 (.slice (some ⟨g, 0, none⟩) n c) n (flat2 xs)) (hk : k ≤ n) (hc : n ≤ c) : ArgAt w 2 (.slice (if c = k then some ⟨g, 0, none⟩ else some ⟨g, k * 2, none⟩) (n - k) (c - k)) (n - k) (flat2 (xs.drop k)) := by
  have hl := h.1
  rw [flat2_length] at hl
  rcases ArgAt.of_row h with ⟨h0, _⟩ | ⟨a', c', h0, h1, h2⟩
  · cases h0
  · injection h0 with e1 e2 e3
    injection e1 with e1
    subst e1 e3
    have hln : (flat2 (xs.drop k)).length = (n - k) * 2 := by rw [flat2_length, List.length_drop]; omega
    by_cases hz : c = k
    · rw [if_pos hz]
      refine .inr ⟨_, _, rfl, hln, fun j v hj => ?_⟩
      have := (List.getElem?_eq_some_iff.1 hj).1
      omega
    · rw [if_neg hz]
      refine .inr ⟨_, _, rfl, hln, fun j v hj => ?_⟩
      rw [← flat2_drop _ _ (by omega), List.getElem?_drop] at hj
      have := h2 _ v hj
      rw [Addr.add_lit] at this ⊢
      rw [show k * 2 + j = 0 + (k * 2 + j) by omega]
      exact this
theorem app_arr2' {w : World} (base : Nat) (ty : TypeId) (v : Value) (n : Nat) (xs : List Value) (hown : w.ownsRow base 39 2 v n xs) (u : Value) (m : Nat) (ys : List Pr2) (hu : ArgAt w 2 u m (flat2 ys)) (hn : n + m ≤ 3000) (hbase : base ≤ w.heap.size) :
    ∃ v' w', (Builtin.append_ #[31, 31] ty #[v, u]).run Tryd.prog w = .ok v' w' ∧ w'.ownsRow base 39 2 v' (n + m) (xs ++ flat2 ys) ∧ w.grownBy w' v.ownBlock ∧ (v'.ownBlock = v.ownBlock ∨ v'.ownBlock = some w.heap.size) := by
  obtain ⟨i, hi, hz, hs, hb⟩ := info_arr2
  exact app_arg base _ ty _ i _ 2 16 Tryd.underlying31 hi hz hs hb rfl (by omega) (by omega) v n _ hown u m _ hu (flat2_one _) hn hbase

theorem owns_mono {w : World} {B B' z n : Nat} {e : TypeId} {v : Value} {xs : List Value} (h : w.ownsRow B e z v n xs) (hB : B' ≤ B) : w.ownsRow B' e z v n xs := by
  refine ⟨h.1, ?_⟩
  rcases h.2 with c | ⟨g, cap, cur, rfl, hb, rest⟩
  · exact .inl c
  · exact .inr ⟨g, cap, cur, rfl, Nat.le_trans hB hb, rest⟩
theorem row_cap {w : World} {B z n m c : Nat} {p : Option Addr} {e : TypeId} {xs : List Value} (h : w.ownsRow B e z (.slice p n c) m xs) : n ≤ c := by
  rcases h.2 with ⟨h0, _⟩ | ⟨g, cap, cur, h0, hb, hg, hc, _⟩
  · injection h0 with _ h1 h2; omega
  · injection h0 with _ h1 h2; omega

/-- What the operations of the region hand back: a pair put in at place p. -/
def spSor (r n p i g c : Nat) (vv : Value) (av : Addr) (s : List Pr2) (key val : Int) (j : Nat) : Sp :=
  ([.r 0 [] 4, .q (.slice (some ⟨g, 0, none⟩) n c), .q (.int .i64 p), .q (.slice (some ⟨g, 0, none⟩) p c), .r (0 + p) ([] ++ flat2 (s.take p)) 15,
    .q (.int .u64 key), .q (.pointer (some ⟨r, 0, none⟩)), .q (.pointer (some ⟨r, 0, none⟩)), .q (.pointer (some ⟨r, 2, none⟩)), .q vv, .q (.int .i64 i), .q (.pointer (some (av.add i))), .q (.int .u64 val),
    .q (.agg #[.int .u64 key, .int .u64 val]), .r 1 (flat2 [⟨key, val⟩]) 15, .r (0 + p + 1) (([] ++ flat2 (s.take p)) ++ flat2 [⟨key, val⟩]) 19,
    .q (.slice (some ⟨g, 0, none⟩) n c), .q (.int .i64 p), .q (.slice (if c = p then some ⟨g, 0, none⟩ else some ⟨g, p * 2, none⟩) (n - p) (c - p)),
    .r (0 + p + 1 + (n - p)) ((([] ++ flat2 (s.take p)) ++ flat2 [⟨key, val⟩]) ++ flat2 (s.drop p)) 999] : List Sp).getD j (.q undef)

/-- What Sorted has made of the first i keys. -/
def SA (l : List Pr2) (i : Nat) (s : List Pr2) : Prop := s.length = i ∧ SortP s ∧ ∀ q, look s q = look (l.take i) q
theorem SA.step {l s : List Pr2} {i p : Nat} (H : SA l i s) (hn : (keysR l).Nodup) (hi : i < l.length) (hp : p ≤ s.length) (hlo : LoAt s l[i].key p) (hhi : ∀ h : p < s.length, ¬ s[p].key < l[i].key) : SA l (i + 1) (putIn ⟨l[i].key, l[i].val⟩ p s) := by
  obtain ⟨h1, h2, h3⟩ := H
  have hnone : look (l.take i) l[i].key = none := look_none_of fun x hx e => by
    obtain ⟨j, hj, rfl⟩ := List.getElem_of_mem hx
    have hji : j < i := by rw [List.length_take] at hj; omega
    rw [List.getElem_take] at e
    have h4 := List.pairwise_iff_getElem.1 hn j i (by simp [keysR]; omega) (by simp [keysR]; omega) hji
    exact h4 (by simpa [keysR] using e)
  have hmiss : look s l[i].key = none := (h3 _).trans hnone
  have hsorted : ∀ a b (ha : a < s.length) (hb : b < s.length), a < b → s[a].key < s[b].key := fun a b ha hb hab => List.pairwise_iff_getElem.1 h2 a b ha hb hab
  have hHi : HiAt s l[i].key p := fun t ht hpt => by
    have h4 := hhi (by omega)
    rcases Nat.lt_or_eq_of_le hpt with c | rfl
    · have := hsorted p t (by omega) ht c
      omega
    · omega
  have hhit : hitAt s l[i].key p = false := by
    unfold hitAt
    cases hx : s[p]? with
    | none => rfl
    | some x =>
      have hxk := none_all hmiss x (List.mem_of_getElem? hx)
      simpa using hxk
  have he := insP_miss (v := l[i].val) h2 hp hlo hHi hhit
  rw [← he]
  refine ⟨by rw [he, putIn_length _ _ _ hp, h1], insP_sort h2, fun q => ?_⟩
  rw [look_insP h2, h3, List.take_add_one, List.getElem?_eq_getElem hi]
  show _ = look (l.take i ++ [l[i]]) q
  exact (look_appN hnone q).symm

set_option maxHeartbeats 4000000 in
set_option maxRecDepth 100000 in
theorem sortedr_c (T : Nat → Prop) (r : Nat) (most : Int) (l : List Pr2) (w : World) (H : RF w T r most l) (hn : (keysR l).Nodup) :
    Calls Tryd.prog 10 #[.pointer (some ⟨r, 0, none⟩)] w fun e w' => ∃ v' s, e = .returned v' ∧ SA l l.length s ∧ w'.ownsRow w.heap.size 39 2 v' l.length (flat2 s) ∧ Below w.heap.size w w' := by
  obtain ⟨vk, vv, h1, h2, h3, h4, h5⟩ := H.ex
  have hsm := H.small
  obtain ⟨p1, c1, rfl, hn1, hc1, _, hR⟩ := u64_row h2
  obtain ⟨p2, c2, rfl, hn2, hc2, _, hR2⟩ := u64_row h3
  have q1 := h1.cell 1
  have q2 := h1.cell 2
  have mixed : Tryd.prog.follows .mixedOrders = true := by kernel_rfl
  have q1' := (h1.alloc (.cells #[] 39)).cell 1
  have HX := Lib.hid (And.intro hn (And.intro hsm (And.intro q2 (And.intro hR hR2))))
  clear h1 h2 h3 h4 h5 hR hR2 H hn hn1 hn2 q2
  go_enter Tryd.func10, Tryd.ntmps10
  go_wp2_with fail
  go_loopw [3, 13] (fun s3 s13 wr => ∃ (i g c : Nat) (s : List Pr2), i ≤ l.length ∧ s13 = .int .i64 i ∧ s3 = .slice (some ⟨g, 0, none⟩) i c ∧ i ≤ c ∧ SA l i s ∧ wr.ownsRow w.heap.size 39 2 (.slice (some ⟨g, 0, none⟩) i c) i (flat2 s) ∧ Below w.heap.size w wr) (fun _ s13 _ => l.length - (RowKit.intOf s13).toNat)
  case atStart => exact ⟨0, w.heap.size, 0, [], Nat.zero_le _, rfl, rfl, Nat.le_refl _, ⟨rfl, List.Pairwise.nil, fun q => rfl⟩, row_nil w _ _, (Below.refl _ _).alloc (Nat.le_refl _) _⟩
  case round =>
    obtain ⟨i, g, c, s, hi, rfl, rfl, hic, hSA, hO, hbr⟩ := hrel
    by_cases hlt : i < l.length
    · have hlt1 : (i : Int) < l.length := by omega
      obtain ⟨ak, rfl, hk⟩ := HX.out.2.2.2.1 i (by simp [keysR]; omega)
      obtain ⟨av, rfl, hv⟩ := HX.out.2.2.2.2 i (by simp [valsR]; omega)
      rw [Nat.mul_one] at hk hv
      have ek : (keysR l)[i]'(by simp [keysR]; omega) = l[i].key := by simp [keysR]
      have ev : (valsR l)[i]'(by simp [valsR]; omega) = l[i].val := by simp [valsR]
      rw [ek] at hk
      rw [ev] at hv
      have kc : wr.cell? (ak.add i) = some (.int .u64 l[i].key) := (hbr.cell (block_lt_of_cell hk)).trans hk
      have hcellS : ∀ t (ht : t < s.length), wr.cell? ⟨g, t * 2, none⟩ = some (.int .u64 s[t].key) := fun t ht => by
        obtain ⟨p3, c3, e3, _, _, _, hR3, _⟩ := owns_row (owns0 hO)
        injection e3 with e4 _ _
        obtain ⟨a3, e5, h6, _⟩ := hR3 t ht
        rw [← e4] at e5
        injection e5 with e5
        subst e5
        rw [Addr.add_lit, Nat.zero_add] at h6
        exact h6
      have hls := hSA.1
      obtain ⟨kx, hkx⟩ : ∃ kx, kx = l[i].key := ⟨_, rfl⟩
      rw [← hkx] at kc
      have HS := Lib.hid (And.intro hSA (And.intro hO (And.intro hbr (And.intro hv (And.intro hcellS (And.intro hkx hls))))))
      clear hSA hO hbr hv hcellS hk ek ev hkx
      go_wp2_with fail
      go_loop [6] (fun s6 => ∃ p : Nat, p ≤ i ∧ s6 = .int .i64 p ∧ LoAt s kx p) (fun s6 => i - (RowKit.intOf s6).toNat)
      case atStart => exact ⟨0, Nat.zero_le _, rfl, fun t _ ht => absurd ht (by omega)⟩
      case round =>
        obtain ⟨p, hp, rfl, hlo⟩ := hrel
        have hw : IntKind.i64.wrap ((p : Int) + 1) = (p : Int) + 1 := by have := HX.out.2.1; rw [IntKind.wrap_i64]; omega
        by_cases hpi : p < i
        · have hpi1 : (p : Int) < i := by omega
          have hps : p < s.length := by have := HS.out.2.2.2.2.2.2; omega
          have hc := HS.out.2.2.2.2.1 p hps
          obtain ⟨sk, hsk⟩ : ∃ sk, sk = s[p].key := ⟨_, rfl⟩
          rw [← hsk] at hc
          by_cases hless : sk < kx
          · have hless1 : decide (sk < kx) = true := decide_eq_true hless
            have HL := Lib.hid (And.intro hlo hsk)
            clear hlo hsk
            go_wp2_with fail
            go_round
            case rel =>
              refine ⟨p + 1, by omega, rfl, fun t ht htp => ?_⟩
              rcases Nat.lt_or_eq_of_le (Nat.le_of_lt_succ htp) with c | rfl
              · exact HL.out.1 t ht c
              · rw [← HL.out.2]; exact hless
            case measure => simp only [RowKit.intOf]; omega
          · have hless1 : decide (sk < kx) = false := decide_eq_false hless
            have HL := Lib.hid (And.intro hlo (show ∀ h : p < s.length, kx ≤ s[p].key from fun h => by rw [← hsk]; omega))
            clear hlo hsk
            have q2r : wr.cell? ⟨r, 2, none⟩ = some (.slice (some av) l.length c2) := (HS.out.2.2.1.cell (block_lt_of_cell HX.out.2.2.1)).trans HX.out.2.2.1
            have hvr : wr.cell? (av.add i) = some (.int .u64 l[i].val) := (HS.out.2.2.1.cell (block_lt_of_cell HS.out.2.2.2.1)).trans HS.out.2.2.2.1
            have k0 := arg2_take HS.out.2.1 hp
            have k1 := arg2_drop HS.out.2.1 hp hic
            have hpc : p ≤ c := by omega
            have hp0 : (0 : Int) ≤ (p : Int) := by omega
            have hpi2 : p ≤ i := hp
            have hlt0 : (0 : Int) ≤ (i : Int) := by omega
            have hsm2 := HX.out.2.1
            go_upto_region 8 with fail
            refine region_inv (l := _) 20 (RInv wr.heap.size wr 39 2 _ 20 (fun i => 33 + i) (spSor r i p i g c (.slice (some av) l.length c2) av s kx l[i].val)) mixed (by decide) (by kernel_rfl) (by kernel_rfl) (by kernel_rfl) (by kernel_rfl) (RInv.start _) ?_ ?_
            · intro listed a W io hi hsz HI hr
              have hsz' : io < listed.size := by rw [hsz]; show io < 21; omega
              have dinj : ∀ j k, j < 20 → k < 20 → j ≠ k → (fun i => 33 + i) j ≠ (fun i => 33 + i) k := fun j k _ _ h e => h (Nat.add_left_cancel e)
              have hd : ∀ j, j < 20 → (fun i => 33 + i) j < 55 := fun j hj => (by omega : 33 + j < 55)
              have e0 : a.tmps[0]?.getD undef = .pointer (some ⟨r, 0, none⟩) := raw (HI.keep 0 (fun j _ => (by omega : 33 + j ≠ 0)))
              have e3 : a.tmps[3]?.getD undef = .slice (some ⟨g, 0, none⟩) i c := raw (HI.keep 3 (fun j _ => (by omega : 33 + j ≠ 3)))
              have e4 : a.tmps[4]?.getD undef = .int .i64 i := raw (HI.keep 4 (fun j _ => (by omega : 33 + j ≠ 4)))
              have e5 : a.tmps[5]?.getD undef = .int .u64 kx := raw (HI.keep 5 (fun j _ => (by omega : 33 + j ≠ 5)))
              have e6 : a.tmps[6]?.getD undef = .int .i64 p := raw (HI.keep 6 (fun j _ => (by omega : 33 + j ≠ 6)))
              have c2' : W.cell? ⟨r, 2, none⟩ = some (.slice (some av) l.length c2) := (HI.bel.cell (block_lt_of_cell q2r)).trans q2r
              have cv : W.cell? (av.add i) = some (.int .u64 l[i].val) := (HI.bel.cell (block_lt_of_cell hvr)).trans hvr
              have bW : Below wr.heap.size wr W := HI.bel
              match io, hi with
              | 0, hi =>
                refine HI.build rfl hi hsz' dinj hd rfl rfl rfl rfl (by decide) (fun K h => ?_)
                simp [go_sem]
                exact h
              | 1, hi =>
                refine HI.quiet hi hsz' dinj hd rfl rfl rfl (fun K h => ?_)
                simp [go_sem, e3]
                exact h
              | 2, hi =>
                refine HI.quiet hi hsz' dinj hd rfl rfl rfl (fun K h => ?_)
                simp [go_sem, e6]
                exact h
              | 3, hi =>
                have d1 := raw (HI.qs 1 _ (by decide) (dep hr 1 (by kernel_rfl)) rfl)
                have d2 := raw (HI.qs 2 _ (by decide) (dep hr 2 (by kernel_rfl)) rfl)
                refine HI.quiet hi hsz' dinj hd rfl rfl rfl (fun K h => ?_)
                simp [go_sem, d1, d2, hpc, hp0]
                exact h
              | 4, hi =>
                have hun := getD_both (mem_ready.1 hr).1
                have hu := HI.qs 3 _ (by decide) (dep hr 3 (by kernel_rfl)) rfl
                refine HI.append rfl hi hsz' dinj hd (j1 := 0) (by decide) (dep hr 0 (by kernel_rfl)) rfl hun (by decide) rfl rfl (.tmp 36) _ _ rfl rfl _ hu rfl (fun v hv => app_arr2' _ _ v _ _ hv _ _ _ (k0.below bW) (by omega) (by have := HI.bel.size; exact this))
              | 5, hi =>
                refine HI.quiet hi hsz' dinj hd rfl rfl rfl (fun K h => ?_)
                simp [go_sem, e5]
                exact h
              | 6, hi =>
                refine HI.quiet hi hsz' dinj hd rfl rfl rfl (fun K h => ?_)
                simp [go_sem, e0]
                exact h
              | 7, hi =>
                have d6 := raw (HI.qs 6 _ (by decide) (dep hr 6 (by kernel_rfl)) rfl)
                refine HI.quiet hi hsz' dinj hd rfl rfl rfl (fun K h => ?_)
                simp [go_sem, d6]
                exact h
              | 8, hi =>
                have d7 := raw (HI.qs 7 _ (by decide) (dep hr 7 (by kernel_rfl)) rfl)
                refine HI.quiet hi hsz' dinj hd rfl rfl rfl (fun K h => ?_)
                simp [go_sem, d7]
                exact h
              | 9, hi =>
                have d8 := raw (HI.qs 8 _ (by decide) (dep hr 8 (by kernel_rfl)) rfl)
                refine HI.quiet hi hsz' dinj hd rfl rfl rfl (fun K h => ?_)
                simp [go_sem, d8, c2']
                exact h
              | 10, hi =>
                refine HI.quiet hi hsz' dinj hd rfl rfl rfl (fun K h => ?_)
                simp [go_sem, e4]
                exact h
              | 11, hi =>
                have d9 := raw (HI.qs 9 _ (by decide) (dep hr 9 (by kernel_rfl)) rfl)
                have d10 := raw (HI.qs 10 _ (by decide) (dep hr 10 (by kernel_rfl)) rfl)
                refine HI.quiet hi hsz' dinj hd rfl rfl rfl (fun K h => ?_)
                simp [go_sem, d9, d10, hlt1, hlt0]
                exact h
              | 12, hi =>
                have d11 := raw (HI.qs 11 _ (by decide) (dep hr 11 (by kernel_rfl)) rfl)
                refine HI.quiet hi hsz' dinj hd rfl rfl rfl (fun K h => ?_)
                simp [go_sem, d11, cv]
                exact h
              | 13, hi =>
                have d5 := raw (HI.qs 5 _ (by decide) (dep hr 5 (by kernel_rfl)) rfl)
                have d12 := raw (HI.qs 12 _ (by decide) (dep hr 12 (by kernel_rfl)) rfl)
                refine HI.quiet hi hsz' dinj hd rfl rfl rfl (fun K h => ?_)
                simp [go_sem, d5, d12]
                exact h
              | 14, hi =>
                have d13 := raw (HI.qs 13 _ (by decide) (dep hr 13 (by kernel_rfl)) rfl)
                refine HI.build rfl hi hsz' dinj hd rfl rfl rfl rfl (by decide) (fun K h => ?_)
                simp [go_sem, d13]
                exact h
              | 15, hi =>
                have hun := getD_both (mem_ready.1 hr).1
                have hrow := HI.rs 14 1 _ 15 (by decide) (dep hr 14 (by kernel_rfl)) rfl hun
                refine HI.append rfl hi hsz' dinj hd (j1 := 4) (by decide) (dep hr 4 (by kernel_rfl)) rfl hun (by decide) rfl rfl (.tmp 47) _ _ rfl rfl _ rfl rfl (fun v hv => app_arr2' _ _ v _ _ hv _ 1 _ (ArgAt.of_row hrow) (by omega) (by have := HI.bel.size; exact this))
              | 16, hi =>
                refine HI.quiet hi hsz' dinj hd rfl rfl rfl (fun K h => ?_)
                simp [go_sem, e3]
                exact h
              | 17, hi =>
                refine HI.quiet hi hsz' dinj hd rfl rfl rfl (fun K h => ?_)
                simp [go_sem, e6]
                exact h
              | 18, hi =>
                have d16 := raw (HI.qs 16 _ (by decide) (dep hr 16 (by kernel_rfl)) rfl)
                have d17 := raw (HI.qs 17 _ (by decide) (dep hr 17 (by kernel_rfl)) rfl)
                refine HI.quiet hi hsz' dinj hd rfl rfl rfl (fun K h => ?_)
                simp [go_sem, d16, d17, hp0, hpi2]
                exact h
              | 19, hi =>
                have hun := getD_both (mem_ready.1 hr).1
                have hu := HI.qs 18 _ (by decide) (dep hr 18 (by kernel_rfl)) rfl
                refine HI.append rfl hi hsz' dinj hd (j1 := 15) (by decide) (dep hr 15 (by kernel_rfl)) rfl hun (by decide) rfl rfl (.tmp 51) _ _ rfl rfl _ hu rfl (fun v hv => app_arr2' _ _ v _ _ hv _ _ _ (k1.below bW) (by omega) (by have := HI.bel.size; exact this))
              | kk + 20, hi => exact absurd hi (by omega)
            · intro listed a W hall hsz HI
              have hout : listed.getD 999 false = false := by
                have : listed.size = 21 := hsz
                simp [this]
              have r19 := HI.rs 19 _ _ 999 (by decide) (hall 19 (by decide)) rfl hout
              have h62 : a.tmps.size = 55 := HI.size
              have hdf : a.defers = [] := HI.defers
              have bW : Below wr.heap.size wr W := HI.bel
              have t0 : a.tmps.getD 0 undef = .pointer (some ⟨r, 0, none⟩) := HI.keep 0 (fun j _ => (by omega : 33 + j ≠ 0))
              have t11 : a.tmps.getD 11 undef = .slice (some ak) l.length c1 := HI.keep 11 (fun j _ => (by omega : 33 + j ≠ 11))
              have t12 : a.tmps.getD 12 undef = .int .i64 l.length := HI.keep 12 (fun j _ => (by omega : 33 + j ≠ 12))
              have t13 : a.tmps.getD 13 undef = .int .i64 i := HI.keep 13 (fun j _ => (by omega : 33 + j ≠ 13))
              have t2 : a.tmps.getD 2 undef = .slice none 0 0 := HI.keep 2 (fun j _ => (by omega : 33 + j ≠ 2))
              have t1 : a.tmps.getD 1 undef = undef := HI.keep 1 (fun j _ => (by omega : 33 + j ≠ 1))
              have t7 : a.tmps.getD 7 undef = .slice (some ⟨w.heap.size, 0, none⟩) 0 0 := HI.keep 7 (fun j _ => (by omega : 33 + j ≠ 7))
              have t8 : a.tmps.getD 8 undef = .pointer (some ⟨r, 0, none⟩) := HI.keep 8 (fun j _ => (by omega : 33 + j ≠ 8))
              have t9 : a.tmps.getD 9 undef = .pointer (some ⟨r, 0, none⟩) := HI.keep 9 (fun j _ => (by omega : 33 + j ≠ 9))
              have t10 : a.tmps.getD 10 undef = .pointer (some ⟨r, 1, none⟩) := HI.keep 10 (fun j _ => (by omega : 33 + j ≠ 10))
              have t54 : a.tmps.getD 54 undef = undef := HI.keep 54 (fun j hj => (by omega : 33 + j ≠ 54))
              clear HI hall hsz hout
              obtain ⟨⟨ts⟩, df⟩ := a
              have hz : ts.length = 55 := h62
              obtain rfl : df = [] := hdf
              clear h62
              obtain ⟨z0, ts0, rfl, hz0⟩ := cons_of hz
              clear hz
              obtain ⟨z1, ts1, rfl, hz1⟩ := cons_of hz0
              clear hz0
              obtain ⟨z2, ts2, rfl, hz2⟩ := cons_of hz1
              clear hz1
              obtain ⟨z3, ts3, rfl, hz3⟩ := cons_of hz2
              clear hz2
              obtain ⟨z4, ts4, rfl, hz4⟩ := cons_of hz3
              clear hz3
              obtain ⟨z5, ts5, rfl, hz5⟩ := cons_of hz4
              clear hz4
              obtain ⟨z6, ts6, rfl, hz6⟩ := cons_of hz5
              clear hz5
              obtain ⟨z7, ts7, rfl, hz7⟩ := cons_of hz6
              clear hz6
              obtain ⟨z8, ts8, rfl, hz8⟩ := cons_of hz7
              clear hz7
              obtain ⟨z9, ts9, rfl, hz9⟩ := cons_of hz8
              clear hz8
              obtain ⟨z10, ts10, rfl, hz10⟩ := cons_of hz9
              clear hz9
              obtain ⟨z11, ts11, rfl, hz11⟩ := cons_of hz10
              clear hz10
              obtain ⟨z12, ts12, rfl, hz12⟩ := cons_of hz11
              clear hz11
              obtain ⟨z13, ts13, rfl, hz13⟩ := cons_of hz12
              clear hz12
              obtain ⟨z14, ts14, rfl, hz14⟩ := cons_of hz13
              clear hz13
              obtain ⟨z15, ts15, rfl, hz15⟩ := cons_of hz14
              clear hz14
              obtain ⟨z16, ts16, rfl, hz16⟩ := cons_of hz15
              clear hz15
              obtain ⟨z17, ts17, rfl, hz17⟩ := cons_of hz16
              clear hz16
              obtain ⟨z18, ts18, rfl, hz18⟩ := cons_of hz17
              clear hz17
              obtain ⟨z19, ts19, rfl, hz19⟩ := cons_of hz18
              clear hz18
              obtain ⟨z20, ts20, rfl, hz20⟩ := cons_of hz19
              clear hz19
              obtain ⟨z21, ts21, rfl, hz21⟩ := cons_of hz20
              clear hz20
              obtain ⟨z22, ts22, rfl, hz22⟩ := cons_of hz21
              clear hz21
              obtain ⟨z23, ts23, rfl, hz23⟩ := cons_of hz22
              clear hz22
              obtain ⟨z24, ts24, rfl, hz24⟩ := cons_of hz23
              clear hz23
              obtain ⟨z25, ts25, rfl, hz25⟩ := cons_of hz24
              clear hz24
              obtain ⟨z26, ts26, rfl, hz26⟩ := cons_of hz25
              clear hz25
              obtain ⟨z27, ts27, rfl, hz27⟩ := cons_of hz26
              clear hz26
              obtain ⟨z28, ts28, rfl, hz28⟩ := cons_of hz27
              clear hz27
              obtain ⟨z29, ts29, rfl, hz29⟩ := cons_of hz28
              clear hz28
              obtain ⟨z30, ts30, rfl, hz30⟩ := cons_of hz29
              clear hz29
              obtain ⟨z31, ts31, rfl, hz31⟩ := cons_of hz30
              clear hz30
              obtain ⟨z32, ts32, rfl, hz32⟩ := cons_of hz31
              clear hz31
              obtain ⟨z33, ts33, rfl, hz33⟩ := cons_of hz32
              clear hz32
              obtain ⟨z34, ts34, rfl, hz34⟩ := cons_of hz33
              clear hz33
              obtain ⟨z35, ts35, rfl, hz35⟩ := cons_of hz34
              clear hz34
              obtain ⟨z36, ts36, rfl, hz36⟩ := cons_of hz35
              clear hz35
              obtain ⟨z37, ts37, rfl, hz37⟩ := cons_of hz36
              clear hz36
              obtain ⟨z38, ts38, rfl, hz38⟩ := cons_of hz37
              clear hz37
              obtain ⟨z39, ts39, rfl, hz39⟩ := cons_of hz38
              clear hz38
              obtain ⟨z40, ts40, rfl, hz40⟩ := cons_of hz39
              clear hz39
              obtain ⟨z41, ts41, rfl, hz41⟩ := cons_of hz40
              clear hz40
              obtain ⟨z42, ts42, rfl, hz42⟩ := cons_of hz41
              clear hz41
              obtain ⟨z43, ts43, rfl, hz43⟩ := cons_of hz42
              clear hz42
              obtain ⟨z44, ts44, rfl, hz44⟩ := cons_of hz43
              clear hz43
              obtain ⟨z45, ts45, rfl, hz45⟩ := cons_of hz44
              clear hz44
              obtain ⟨z46, ts46, rfl, hz46⟩ := cons_of hz45
              clear hz45
              obtain ⟨z47, ts47, rfl, hz47⟩ := cons_of hz46
              clear hz46
              obtain ⟨z48, ts48, rfl, hz48⟩ := cons_of hz47
              clear hz47
              obtain ⟨z49, ts49, rfl, hz49⟩ := cons_of hz48
              clear hz48
              obtain ⟨z50, ts50, rfl, hz50⟩ := cons_of hz49
              clear hz49
              obtain ⟨z51, ts51, rfl, hz51⟩ := cons_of hz50
              clear hz50
              obtain ⟨z52, ts52, rfl, hz52⟩ := cons_of hz51
              clear hz51
              obtain ⟨z53, ts53, rfl, hz53⟩ := cons_of hz52
              clear hz52
              obtain ⟨z54, ts54, rfl, hz54⟩ := cons_of hz53
              clear hz53
              obtain rfl := List.length_eq_zero_iff.1 hz54
              clear hz54
              obtain rfl : z0 = .pointer (some ⟨r, 0, none⟩) := t0
              obtain rfl : z11 = .slice (some ak) l.length c1 := t11
              obtain rfl : z12 = .int .i64 l.length := t12
              obtain rfl : z13 = .int .i64 i := t13
              obtain rfl : z2 = .slice none 0 0 := t2
              obtain rfl : z1 = undef := t1
              obtain rfl : z7 = .slice (some ⟨w.heap.size, 0, none⟩) 0 0 := t7
              obtain rfl : z8 = .pointer (some ⟨r, 0, none⟩) := t8
              obtain rfl : z9 = .pointer (some ⟨r, 0, none⟩) := t9
              obtain rfl : z10 = .pointer (some ⟨r, 1, none⟩) := t10
              obtain rfl : z54 = undef := t54
              have R19 : W.ownsRow w.heap.size 39 2 z52 (i + 1) (flat2 (putIn ⟨kx, l[i].val⟩ p s)) := by
                have : W.ownsRow wr.heap.size 39 2 z52 (0 + p + 1 + (i - p)) ((([] ++ flat2 (s.take p)) ++ flat2 [⟨kx, l[i].val⟩]) ++ flat2 (s.drop p)) := r19
                rw [show i + 1 = 0 + p + 1 + (i - p) by omega, flat2_putIn]
                exact owns_mono this HS.out.2.2.1.size
              clear r19
              obtain ⟨g', c', rfl, hgb, _⟩ := R19.form (by omega)
              have hic' := row_cap R19
              have HY := Lib.hid (And.intro R19 bW)
              clear R19 bW hgb
              have hw3 : IntKind.i64.wrap ((i : Int) + 1) = (i : Int) + 1 := by rw [IntKind.wrap_i64]; omega
              simp only [List.drop_succ_cons, List.drop_zero]
              go_wp2_with fail
              go_roundw
              case rel =>
                have hst := SA.step HS.out.1 HX.out.1 hlt (by have := HS.out.2.2.2.2.2.2; omega) (show LoAt s l[i].key p by rw [← HS.out.2.2.2.2.2.1]; exact HL.out.1) (fun h => by have h8 := HL.out.2 h; have h9 := HS.out.2.2.2.2.2.1; omega)
                rw [← HS.out.2.2.2.2.2.1] at hst
                exact ⟨i + 1, g', c', _, by omega, rfl, rfl, hic', hst, HY.out.1, HS.out.2.2.1.trans (HY.out.2.mono HS.out.2.2.1.size)⟩
              case measure => simp only [RowKit.intOf]; omega
        · have hpi1 : ¬ (p : Int) < i := by omega
          have HL := Lib.hid (And.intro hlo (show ∀ h : p < s.length, kx ≤ s[p].key from fun h => absurd h (by have := HS.out.2.2.2.2.2.2; omega)))
          clear hlo
          have q2r : wr.cell? ⟨r, 2, none⟩ = some (.slice (some av) l.length c2) := (HS.out.2.2.1.cell (block_lt_of_cell HX.out.2.2.1)).trans HX.out.2.2.1
          have hvr : wr.cell? (av.add i) = some (.int .u64 l[i].val) := (HS.out.2.2.1.cell (block_lt_of_cell HS.out.2.2.2.1)).trans HS.out.2.2.2.1
          have k0 := arg2_take HS.out.2.1 hp
          have k1 := arg2_drop HS.out.2.1 hp hic
          have hpc : p ≤ c := by omega
          have hp0 : (0 : Int) ≤ (p : Int) := by omega
          have hpi2 : p ≤ i := hp
          have hlt0 : (0 : Int) ≤ (i : Int) := by omega
          have hsm2 := HX.out.2.1
          go_upto_region 8 with fail
          refine region_inv (l := _) 20 (RInv wr.heap.size wr 39 2 _ 20 (fun i => 33 + i) (spSor r i p i g c (.slice (some av) l.length c2) av s kx l[i].val)) mixed (by decide) (by kernel_rfl) (by kernel_rfl) (by kernel_rfl) (by kernel_rfl) (RInv.start _) ?_ ?_
          · intro listed a W io hi hsz HI hr
            have hsz' : io < listed.size := by rw [hsz]; show io < 21; omega
            have dinj : ∀ j k, j < 20 → k < 20 → j ≠ k → (fun i => 33 + i) j ≠ (fun i => 33 + i) k := fun j k _ _ h e => h (Nat.add_left_cancel e)
            have hd : ∀ j, j < 20 → (fun i => 33 + i) j < 55 := fun j hj => (by omega : 33 + j < 55)
            have e0 : a.tmps[0]?.getD undef = .pointer (some ⟨r, 0, none⟩) := raw (HI.keep 0 (fun j _ => (by omega : 33 + j ≠ 0)))
            have e3 : a.tmps[3]?.getD undef = .slice (some ⟨g, 0, none⟩) i c := raw (HI.keep 3 (fun j _ => (by omega : 33 + j ≠ 3)))
            have e4 : a.tmps[4]?.getD undef = .int .i64 i := raw (HI.keep 4 (fun j _ => (by omega : 33 + j ≠ 4)))
            have e5 : a.tmps[5]?.getD undef = .int .u64 kx := raw (HI.keep 5 (fun j _ => (by omega : 33 + j ≠ 5)))
            have e6 : a.tmps[6]?.getD undef = .int .i64 p := raw (HI.keep 6 (fun j _ => (by omega : 33 + j ≠ 6)))
            have c2' : W.cell? ⟨r, 2, none⟩ = some (.slice (some av) l.length c2) := (HI.bel.cell (block_lt_of_cell q2r)).trans q2r
            have cv : W.cell? (av.add i) = some (.int .u64 l[i].val) := (HI.bel.cell (block_lt_of_cell hvr)).trans hvr
            have bW : Below wr.heap.size wr W := HI.bel
            match io, hi with
            | 0, hi =>
              refine HI.build rfl hi hsz' dinj hd rfl rfl rfl rfl (by decide) (fun K h => ?_)
              simp [go_sem]
              exact h
            | 1, hi =>
              refine HI.quiet hi hsz' dinj hd rfl rfl rfl (fun K h => ?_)
              simp [go_sem, e3]
              exact h
            | 2, hi =>
              refine HI.quiet hi hsz' dinj hd rfl rfl rfl (fun K h => ?_)
              simp [go_sem, e6]
              exact h
            | 3, hi =>
              have d1 := raw (HI.qs 1 _ (by decide) (dep hr 1 (by kernel_rfl)) rfl)
              have d2 := raw (HI.qs 2 _ (by decide) (dep hr 2 (by kernel_rfl)) rfl)
              refine HI.quiet hi hsz' dinj hd rfl rfl rfl (fun K h => ?_)
              simp [go_sem, d1, d2, hpc, hp0]
              exact h
            | 4, hi =>
              have hun := getD_both (mem_ready.1 hr).1
              have hu := HI.qs 3 _ (by decide) (dep hr 3 (by kernel_rfl)) rfl
              refine HI.append rfl hi hsz' dinj hd (j1 := 0) (by decide) (dep hr 0 (by kernel_rfl)) rfl hun (by decide) rfl rfl (.tmp 36) _ _ rfl rfl _ hu rfl (fun v hv => app_arr2' _ _ v _ _ hv _ _ _ (k0.below bW) (by omega) (by have := HI.bel.size; exact this))
            | 5, hi =>
              refine HI.quiet hi hsz' dinj hd rfl rfl rfl (fun K h => ?_)
              simp [go_sem, e5]
              exact h
            | 6, hi =>
              refine HI.quiet hi hsz' dinj hd rfl rfl rfl (fun K h => ?_)
              simp [go_sem, e0]
              exact h
            | 7, hi =>
              have d6 := raw (HI.qs 6 _ (by decide) (dep hr 6 (by kernel_rfl)) rfl)
              refine HI.quiet hi hsz' dinj hd rfl rfl rfl (fun K h => ?_)
              simp [go_sem, d6]
              exact h
            | 8, hi =>
              have d7 := raw (HI.qs 7 _ (by decide) (dep hr 7 (by kernel_rfl)) rfl)
              refine HI.quiet hi hsz' dinj hd rfl rfl rfl (fun K h => ?_)
              simp [go_sem, d7]
              exact h
            | 9, hi =>
              have d8 := raw (HI.qs 8 _ (by decide) (dep hr 8 (by kernel_rfl)) rfl)
              refine HI.quiet hi hsz' dinj hd rfl rfl rfl (fun K h => ?_)
              simp [go_sem, d8, c2']
              exact h
            | 10, hi =>
              refine HI.quiet hi hsz' dinj hd rfl rfl rfl (fun K h => ?_)
              simp [go_sem, e4]
              exact h
            | 11, hi =>
              have d9 := raw (HI.qs 9 _ (by decide) (dep hr 9 (by kernel_rfl)) rfl)
              have d10 := raw (HI.qs 10 _ (by decide) (dep hr 10 (by kernel_rfl)) rfl)
              refine HI.quiet hi hsz' dinj hd rfl rfl rfl (fun K h => ?_)
              simp [go_sem, d9, d10, hlt1, hlt0]
              exact h
            | 12, hi =>
              have d11 := raw (HI.qs 11 _ (by decide) (dep hr 11 (by kernel_rfl)) rfl)
              refine HI.quiet hi hsz' dinj hd rfl rfl rfl (fun K h => ?_)
              simp [go_sem, d11, cv]
              exact h
            | 13, hi =>
              have d5 := raw (HI.qs 5 _ (by decide) (dep hr 5 (by kernel_rfl)) rfl)
              have d12 := raw (HI.qs 12 _ (by decide) (dep hr 12 (by kernel_rfl)) rfl)
              refine HI.quiet hi hsz' dinj hd rfl rfl rfl (fun K h => ?_)
              simp [go_sem, d5, d12]
              exact h
            | 14, hi =>
              have d13 := raw (HI.qs 13 _ (by decide) (dep hr 13 (by kernel_rfl)) rfl)
              refine HI.build rfl hi hsz' dinj hd rfl rfl rfl rfl (by decide) (fun K h => ?_)
              simp [go_sem, d13]
              exact h
            | 15, hi =>
              have hun := getD_both (mem_ready.1 hr).1
              have hrow := HI.rs 14 1 _ 15 (by decide) (dep hr 14 (by kernel_rfl)) rfl hun
              refine HI.append rfl hi hsz' dinj hd (j1 := 4) (by decide) (dep hr 4 (by kernel_rfl)) rfl hun (by decide) rfl rfl (.tmp 47) _ _ rfl rfl _ rfl rfl (fun v hv => app_arr2' _ _ v _ _ hv _ 1 _ (ArgAt.of_row hrow) (by omega) (by have := HI.bel.size; exact this))
            | 16, hi =>
              refine HI.quiet hi hsz' dinj hd rfl rfl rfl (fun K h => ?_)
              simp [go_sem, e3]
              exact h
            | 17, hi =>
              refine HI.quiet hi hsz' dinj hd rfl rfl rfl (fun K h => ?_)
              simp [go_sem, e6]
              exact h
            | 18, hi =>
              have d16 := raw (HI.qs 16 _ (by decide) (dep hr 16 (by kernel_rfl)) rfl)
              have d17 := raw (HI.qs 17 _ (by decide) (dep hr 17 (by kernel_rfl)) rfl)
              refine HI.quiet hi hsz' dinj hd rfl rfl rfl (fun K h => ?_)
              simp [go_sem, d16, d17, hp0, hpi2]
              exact h
            | 19, hi =>
              have hun := getD_both (mem_ready.1 hr).1
              have hu := HI.qs 18 _ (by decide) (dep hr 18 (by kernel_rfl)) rfl
              refine HI.append rfl hi hsz' dinj hd (j1 := 15) (by decide) (dep hr 15 (by kernel_rfl)) rfl hun (by decide) rfl rfl (.tmp 51) _ _ rfl rfl _ hu rfl (fun v hv => app_arr2' _ _ v _ _ hv _ _ _ (k1.below bW) (by omega) (by have := HI.bel.size; exact this))
            | kk + 20, hi => exact absurd hi (by omega)
          · intro listed a W hall hsz HI
            have hout : listed.getD 999 false = false := by
              have : listed.size = 21 := hsz
              simp [this]
            have r19 := HI.rs 19 _ _ 999 (by decide) (hall 19 (by decide)) rfl hout
            have h62 : a.tmps.size = 55 := HI.size
            have hdf : a.defers = [] := HI.defers
            have bW : Below wr.heap.size wr W := HI.bel
            have t0 : a.tmps.getD 0 undef = .pointer (some ⟨r, 0, none⟩) := HI.keep 0 (fun j _ => (by omega : 33 + j ≠ 0))
            have t11 : a.tmps.getD 11 undef = .slice (some ak) l.length c1 := HI.keep 11 (fun j _ => (by omega : 33 + j ≠ 11))
            have t12 : a.tmps.getD 12 undef = .int .i64 l.length := HI.keep 12 (fun j _ => (by omega : 33 + j ≠ 12))
            have t13 : a.tmps.getD 13 undef = .int .i64 i := HI.keep 13 (fun j _ => (by omega : 33 + j ≠ 13))
            have t2 : a.tmps.getD 2 undef = .slice none 0 0 := HI.keep 2 (fun j _ => (by omega : 33 + j ≠ 2))
            have t1 : a.tmps.getD 1 undef = undef := HI.keep 1 (fun j _ => (by omega : 33 + j ≠ 1))
            have t7 : a.tmps.getD 7 undef = .slice (some ⟨w.heap.size, 0, none⟩) 0 0 := HI.keep 7 (fun j _ => (by omega : 33 + j ≠ 7))
            have t8 : a.tmps.getD 8 undef = .pointer (some ⟨r, 0, none⟩) := HI.keep 8 (fun j _ => (by omega : 33 + j ≠ 8))
            have t9 : a.tmps.getD 9 undef = .pointer (some ⟨r, 0, none⟩) := HI.keep 9 (fun j _ => (by omega : 33 + j ≠ 9))
            have t10 : a.tmps.getD 10 undef = .pointer (some ⟨r, 1, none⟩) := HI.keep 10 (fun j _ => (by omega : 33 + j ≠ 10))
            have t54 : a.tmps.getD 54 undef = undef := HI.keep 54 (fun j hj => (by omega : 33 + j ≠ 54))
            clear HI hall hsz hout
            obtain ⟨⟨ts⟩, df⟩ := a
            have hz : ts.length = 55 := h62
            obtain rfl : df = [] := hdf
            clear h62
            obtain ⟨z0, ts0, rfl, hz0⟩ := cons_of hz
            clear hz
            obtain ⟨z1, ts1, rfl, hz1⟩ := cons_of hz0
            clear hz0
            obtain ⟨z2, ts2, rfl, hz2⟩ := cons_of hz1
            clear hz1
            obtain ⟨z3, ts3, rfl, hz3⟩ := cons_of hz2
            clear hz2
            obtain ⟨z4, ts4, rfl, hz4⟩ := cons_of hz3
            clear hz3
            obtain ⟨z5, ts5, rfl, hz5⟩ := cons_of hz4
            clear hz4
            obtain ⟨z6, ts6, rfl, hz6⟩ := cons_of hz5
            clear hz5
            obtain ⟨z7, ts7, rfl, hz7⟩ := cons_of hz6
            clear hz6
            obtain ⟨z8, ts8, rfl, hz8⟩ := cons_of hz7
            clear hz7
            obtain ⟨z9, ts9, rfl, hz9⟩ := cons_of hz8
            clear hz8
            obtain ⟨z10, ts10, rfl, hz10⟩ := cons_of hz9
            clear hz9
            obtain ⟨z11, ts11, rfl, hz11⟩ := cons_of hz10
            clear hz10
            obtain ⟨z12, ts12, rfl, hz12⟩ := cons_of hz11
            clear hz11
            obtain ⟨z13, ts13, rfl, hz13⟩ := cons_of hz12
            clear hz12
            obtain ⟨z14, ts14, rfl, hz14⟩ := cons_of hz13
            clear hz13
            obtain ⟨z15, ts15, rfl, hz15⟩ := cons_of hz14
            clear hz14
            obtain ⟨z16, ts16, rfl, hz16⟩ := cons_of hz15
            clear hz15
            obtain ⟨z17, ts17, rfl, hz17⟩ := cons_of hz16
            clear hz16
            obtain ⟨z18, ts18, rfl, hz18⟩ := cons_of hz17
            clear hz17
            obtain ⟨z19, ts19, rfl, hz19⟩ := cons_of hz18
            clear hz18
            obtain ⟨z20, ts20, rfl, hz20⟩ := cons_of hz19
            clear hz19
            obtain ⟨z21, ts21, rfl, hz21⟩ := cons_of hz20
            clear hz20
            obtain ⟨z22, ts22, rfl, hz22⟩ := cons_of hz21
            clear hz21
            obtain ⟨z23, ts23, rfl, hz23⟩ := cons_of hz22
            clear hz22
            obtain ⟨z24, ts24, rfl, hz24⟩ := cons_of hz23
            clear hz23
            obtain ⟨z25, ts25, rfl, hz25⟩ := cons_of hz24
            clear hz24
            obtain ⟨z26, ts26, rfl, hz26⟩ := cons_of hz25
            clear hz25
            obtain ⟨z27, ts27, rfl, hz27⟩ := cons_of hz26
            clear hz26
            obtain ⟨z28, ts28, rfl, hz28⟩ := cons_of hz27
            clear hz27
            obtain ⟨z29, ts29, rfl, hz29⟩ := cons_of hz28
            clear hz28
            obtain ⟨z30, ts30, rfl, hz30⟩ := cons_of hz29
            clear hz29
            obtain ⟨z31, ts31, rfl, hz31⟩ := cons_of hz30
            clear hz30
            obtain ⟨z32, ts32, rfl, hz32⟩ := cons_of hz31
            clear hz31
            obtain ⟨z33, ts33, rfl, hz33⟩ := cons_of hz32
            clear hz32
            obtain ⟨z34, ts34, rfl, hz34⟩ := cons_of hz33
            clear hz33
            obtain ⟨z35, ts35, rfl, hz35⟩ := cons_of hz34
            clear hz34
            obtain ⟨z36, ts36, rfl, hz36⟩ := cons_of hz35
            clear hz35
            obtain ⟨z37, ts37, rfl, hz37⟩ := cons_of hz36
            clear hz36
            obtain ⟨z38, ts38, rfl, hz38⟩ := cons_of hz37
            clear hz37
            obtain ⟨z39, ts39, rfl, hz39⟩ := cons_of hz38
            clear hz38
            obtain ⟨z40, ts40, rfl, hz40⟩ := cons_of hz39
            clear hz39
            obtain ⟨z41, ts41, rfl, hz41⟩ := cons_of hz40
            clear hz40
            obtain ⟨z42, ts42, rfl, hz42⟩ := cons_of hz41
            clear hz41
            obtain ⟨z43, ts43, rfl, hz43⟩ := cons_of hz42
            clear hz42
            obtain ⟨z44, ts44, rfl, hz44⟩ := cons_of hz43
            clear hz43
            obtain ⟨z45, ts45, rfl, hz45⟩ := cons_of hz44
            clear hz44
            obtain ⟨z46, ts46, rfl, hz46⟩ := cons_of hz45
            clear hz45
            obtain ⟨z47, ts47, rfl, hz47⟩ := cons_of hz46
            clear hz46
            obtain ⟨z48, ts48, rfl, hz48⟩ := cons_of hz47
            clear hz47
            obtain ⟨z49, ts49, rfl, hz49⟩ := cons_of hz48
            clear hz48
            obtain ⟨z50, ts50, rfl, hz50⟩ := cons_of hz49
            clear hz49
            obtain ⟨z51, ts51, rfl, hz51⟩ := cons_of hz50
            clear hz50
            obtain ⟨z52, ts52, rfl, hz52⟩ := cons_of hz51
            clear hz51
            obtain ⟨z53, ts53, rfl, hz53⟩ := cons_of hz52
            clear hz52
            obtain ⟨z54, ts54, rfl, hz54⟩ := cons_of hz53
            clear hz53
            obtain rfl := List.length_eq_zero_iff.1 hz54
            clear hz54
            obtain rfl : z0 = .pointer (some ⟨r, 0, none⟩) := t0
            obtain rfl : z11 = .slice (some ak) l.length c1 := t11
            obtain rfl : z12 = .int .i64 l.length := t12
            obtain rfl : z13 = .int .i64 i := t13
            obtain rfl : z2 = .slice none 0 0 := t2
            obtain rfl : z1 = undef := t1
            obtain rfl : z7 = .slice (some ⟨w.heap.size, 0, none⟩) 0 0 := t7
            obtain rfl : z8 = .pointer (some ⟨r, 0, none⟩) := t8
            obtain rfl : z9 = .pointer (some ⟨r, 0, none⟩) := t9
            obtain rfl : z10 = .pointer (some ⟨r, 1, none⟩) := t10
            obtain rfl : z54 = undef := t54
            have R19 : W.ownsRow w.heap.size 39 2 z52 (i + 1) (flat2 (putIn ⟨kx, l[i].val⟩ p s)) := by
              have : W.ownsRow wr.heap.size 39 2 z52 (0 + p + 1 + (i - p)) ((([] ++ flat2 (s.take p)) ++ flat2 [⟨kx, l[i].val⟩]) ++ flat2 (s.drop p)) := r19
              rw [show i + 1 = 0 + p + 1 + (i - p) by omega, flat2_putIn]
              exact owns_mono this HS.out.2.2.1.size
            clear r19
            obtain ⟨g', c', rfl, hgb, _⟩ := R19.form (by omega)
            have hic' := row_cap R19
            have HY := Lib.hid (And.intro R19 bW)
            clear R19 bW hgb
            have hw3 : IntKind.i64.wrap ((i : Int) + 1) = (i : Int) + 1 := by rw [IntKind.wrap_i64]; omega
            simp only [List.drop_succ_cons, List.drop_zero]
            go_wp2_with fail
            go_roundw
            case rel =>
              have hst := SA.step HS.out.1 HX.out.1 hlt (by have := HS.out.2.2.2.2.2.2; omega) (show LoAt s l[i].key p by rw [← HS.out.2.2.2.2.2.1]; exact HL.out.1) (fun h => by have h8 := HL.out.2 h; have h9 := HS.out.2.2.2.2.2.1; omega)
              rw [← HS.out.2.2.2.2.2.1] at hst
              exact ⟨i + 1, g', c', _, by omega, rfl, rfl, hic', hst, HY.out.1, HS.out.2.2.1.trans (HY.out.2.mono HS.out.2.2.1.size)⟩
            case measure => simp only [RowKit.intOf]; omega
    · obtain rfl : i = l.length := by omega
      have hlt1 : ¬ (l.length : Int) < l.length := by omega
      have HS := Lib.hid (And.intro hSA (And.intro hO hbr))
      clear hSA hO hbr
      go_wp2_with fail
      go_ret
      exact ⟨_, rfl, s, HS.out.1, HS.out.2.1, HS.out.2.2⟩
end Go.Proofs.YtfnnfgiflhpefaaDoor
