/-
  The law PlainBack answers true.
-/
import Derived.Test.YtfnnfgiflhpefaaDoorTwo
import Derived.Deep.RegionHeld3
namespace Go.Proofs.YtfnnfgiflhpefaaDoor
open Go.RowKit Go.Lib

/-- A row of keys in a world. -/
def KeysAt (w : World) (p : Option Addr) (keys : List Int) : Prop := ∀ i (h : i < keys.length), ∃ a, p = some a ∧ w.cell? (a.add i) = some (.int .u64 keys[i])

theorem Two.cell {B f g : Nat} {w0 w : World} {mf mg : Int} {l k : List Pr2} {a : Addr} {v : Value} (H : Two B w0 w f g mf mg l k) (hB : B = w0.heap.size) (h : w0.cell? a = some v) : w.cell? a = some v :=
  (H.bel.cell (by rw [hB]; exact block_lt_of_cell h)).trans h
theorem Two.putA {B f g : Nat} {w0 w : World} {l k : List Pr2} (ea : Nat → Addr) (key val : Int) (H : Two B w0 w f g 100 100 l k) (hB : B = w0.heap.size) (hE : ErrsAt w0 ea) (hl : l.length < 100) :
    Calls Tryd.prog 13 #[.pointer (some ⟨f, 0, none⟩), .int .u64 key, .int .u64 val] w fun e w' => e = .returned .nilIface ∧ Two B w0 w' f g 100 100 (insP key val l) k := by
  refine (H.put ea key val hB hE (by omega)).mono ?_
  rintro e w' ⟨rfl, h⟩
  have h1 : (l.length : Int) < 100 := by omega
  rw [putL, if_pos (.inr h1)] at h
  rw [putNo, if_pos (.inr h1)]
  exact ⟨rfl, h⟩
theorem One.putA {B f : Nat} {w0 w : World} {l x : List Pr2} {xv : Value} (ea : Nat → Addr) (key val : Int) (H : One B w0 w f 100 l xv x) (hB : B = w0.heap.size) (hE : ErrsAt w0 ea) (hl : l.length < 100) :
    Calls Tryd.prog 13 #[.pointer (some ⟨f, 0, none⟩), .int .u64 key, .int .u64 val] w fun e w' => e = .returned .nilIface ∧ One B w0 w' f 100 (insP key val l) xv x := by
  refine (H.put ea key val hB hE (by omega)).mono ?_
  rintro e w' ⟨rfl, h⟩
  have h1 : (l.length : Int) < 100 := by omega
  rw [putL, if_pos (.inr h1)] at h
  rw [putNo, if_pos (.inr h1)]
  exact ⟨rfl, h⟩

set_option maxHeartbeats 4000000 in
set_option maxRecDepth 100000 in
theorem back_c (ea : Nat → Addr) (p : Option Addr) (n c : Nat) (keys : List Int) (q : Int) (w : World) (hE : ErrsAt w ea) (hn : keys.length = n) (hK : KeysAt w p keys) :
    Calls Tryd.prog 4 #[.slice p n c, .int .u64 q] w fun e w' => e = .returned (.bool true) ∧ Below w.heap.size w w' := by
  have HE := Lib.hid (And.intro hE (And.intro hn hK))
  clear hE hn hK
  have mixed : Tryd.prog.follows .mixedOrders = true := by kernel_rfl
  by_cases hbig : n ≤ 60
  case neg =>
    have hbig1 : (60 : Int) < n := by omega
    go_enter Tryd.func4, Tryd.ntmps4
    go_wp2_with fail
    refine (alive_c ea w HE.out.1).mono ?_
    rintro e w1 ⟨rfl, b1⟩
    go_wp2_with fail
    go_ret
    exact ⟨rfl, b1⟩
  have hbig1 : ¬ (60 : Int) < n := by omega
  go_enter Tryd.func4, Tryd.ntmps4
  go_wp2_with fail
  refine (alive_c ea w HE.out.1).mono ?_
  rintro e w1 ⟨rfl, b1⟩
  have HB1 := Lib.hid b1
  clear b1
  go_wp2_with fail
  refine (new_c 100 w1).mono ?_
  rintro e w2 ⟨rfl, p2, b2⟩
  have C2 := Lib.hid (new_c 100 w2)
  have HB2 := Lib.hid (And.intro p2 b2)
  clear p2 b2
  go_wp2_with fail
  refine C2.out.mono ?_
  rintro e w3 ⟨rfl, p3, b3⟩
  have T0 : Two w.heap.size w w3 w1.heap.size w2.heap.size 100 100 [] [] := by
    obtain ⟨p2, b2⟩ := HB2.out
    have b1 := HB1.out
    have s1 := b1.size
    have s2 := b2.size
    have := p2.lt _ p2.own
    exact ⟨⟨_, _, p2.below b3, p3, fun i hi hj => by omega, fun i hi => by omega, fun i hi => by omega⟩, (b1.trans (b2.mono s1)).trans (b3.mono (by omega))⟩
  obtain ⟨F, hF⟩ : ∃ F, F = w1.heap.size := ⟨_, rfl⟩
  obtain ⟨G, hG⟩ : ∃ G, G = w2.heap.size := ⟨_, rfl⟩
  rw [← hF, ← hG] at T0 ⊢
  have HT := Lib.hid T0
  clear T0 HB2 HB1 C2 hF hG p3 b3
  go_wp2_with fail
  go_loopw [23] (fun s23 wr => ∃ (i : Nat) (l k : List Pr2), i ≤ n ∧ s23 = .int .i64 i ∧ Two w.heap.size w wr F G 100 100 l k ∧ LA keys i l ∧ LA keys.reverse i k) (fun s23 _ => n - (RowKit.intOf s23).toNat)
  case atStart => exact ⟨0, [], [], Nat.zero_le _, rfl, HT.out, LA.zero _, LA.zero _⟩
  case round =>
    obtain ⟨i, l, k, hi, rfl, hT, hA, hA'⟩ := hrel
    by_cases hlt : i < n
    · have hlt1 : (i : Int) < n := by omega
      obtain ⟨a, rfl, hc⟩ := HE.out.2.2 i (by rw [HE.out.2.1]; exact hlt)
      obtain ⟨j, hj⟩ : ∃ j : Nat, n - 1 - i = j := ⟨_, rfl⟩
      obtain ⟨a', ha', hd⟩ := HE.out.2.2 j (by rw [HE.out.2.1]; omega)
      injection ha' with ha'
      subst ha'
      have hj2 : (j : Int) < n := by omega
      have hw1 : IntKind.i64.wrap ((n : Int) - 1) = (n : Int) - 1 := by rw [IntKind.wrap_i64]; omega
      have hw2 : IntKind.i64.wrap ((n : Int) - 1 - (i : Int)) = (j : Int) := by rw [IntKind.wrap_i64]; omega
      obtain ⟨ka, hka⟩ : ∃ ka, keys[i]? = some ka := ⟨_, List.getElem?_eq_getElem (by rw [HE.out.2.1]; exact hlt)⟩
      obtain ⟨kb, hkb⟩ : ∃ kb, keys[j]? = some kb := ⟨_, List.getElem?_eq_getElem (by rw [HE.out.2.1]; omega)⟩
      rw [(List.getElem?_eq_some_iff.1 hka).2] at hc
      rw [(List.getElem?_eq_some_iff.1 hkb).2] at hd
      have hc1 := hT.cell rfl hc
      have hl1 : l.length < 100 := by have := hA.1; omega
      have hl2 : k.length < 100 := by have := hA'.1; omega
      have HS := Lib.hid hT
      have HL := Lib.hid (And.intro hA (And.intro hA' (And.intro hka (And.intro hkb hj))))
      have HD := Lib.hid hd
      clear hT hA hA' hka hkb hj hd hc
      go_upto_region 9 with fail
      replace HS := Lib.hid (HS.out.drew rfl)
      go_region_held3 (fun w' => w'.cell? (a.add j) = some (.int .u64 kb)) (exact HS.out.cell rfl HD.out) (first
        | (go_at_call 13; refine (HS.out.putA ea _ _ rfl HE.out.1 hl1).mono ?_; rintro e w5 ⟨rfl, h5⟩; replace HS := Lib.hid h5; clear h5)
        | (go_at_call 13; refine (HS.out.swap.putA ea _ _ rfl HE.out.1 hl2).mono ?_; rintro e w5 ⟨rfl, h5⟩; replace HS := Lib.hid h5.swap; clear h5))
      have hw3 : IntKind.i64.wrap ((i : Int) + 1) = (i : Int) + 1 := by rw [IntKind.wrap_i64]; omega
      go_wp2_with fail
      go_roundw
      case rel =>
        obtain ⟨hA, hA', hka, hkb, hj⟩ := HL.out
        refine ⟨i + 1, _, _, by omega, rfl, HS.out, hA.step? hka, hA'.step? ?_⟩
        rw [List.getElem?_reverse (by rw [HE.out.2.1]; exact hlt), HE.out.2.1, hj]
        exact hkb
      case measure => simp only [RowKit.intOf]; omega
    · obtain rfl : i = n := by omega
      have hlt1 : ¬ (i : Int) < i := by omega
      have hkl : k = l := by
        have e := HE.out.2.1
        subst e
        exact hA.meet hA'
      subst hkl
      have hlen : k.length ≤ 60 := by have := hA.1; omega
      have hsort := hA.2.1
      have HS := Lib.hid hT
      have HA := Lib.hid hsort
      clear hT hA hA' hsort
      go_wp2_with fail
      obtain ⟨S, T, pf, pg, _, hS, _⟩ := HS.out.ex
      refine (One.of_pairs S pf hS HS.out.bel rfl).mono ?_
      rintro e w4 ⟨x, rfl, o4, b4⟩
      have g4 := pg.below b4
      obtain ⟨px, cx, rfl, _, hxc, _⟩ := owns_row o4.row
      have H4 := Lib.hid (And.intro o4 g4)
      clear pf pg hS o4 b4 g4 HS
      go_wp2_with fail
      refine (pairs_c T G 100 k w4 H4.out.2).mono ?_
      rintro e w5 ⟨y, rfl, oy, ky, b5⟩
      obtain ⟨py, cy, rfl, _⟩ := owns_row oy
      have H5 := Lib.hid (And.intro (H4.out.1.below rfl b5) (And.intro (H4.out.2.below b5) oy))
      clear oy ky b5 H4
      go_wp2_with fail
      refine (same_c (.slice px k.length cx) (.slice py k.length cy) k.length k.length k k w5 (by omega) H5.out.1.row H5.out.2.2).mono ?_
      rintro e w6 ⟨rfl, b6⟩
      have H6 := Lib.hid (And.intro (H5.out.1.below rfl b6) (H5.out.2.1.below b6))
      clear b6 H5
      rw [decide_eq_true (rfl : k = k)]
      go_wp2_with fail
      refine (pairs_c T G 100 k w6 H6.out.2).mono ?_
      rintro e w7 ⟨y, rfl, oy, ky, b7⟩
      obtain ⟨py, cy, rfl, _⟩ := owns_row oy
      have H7 := Lib.hid (And.intro (H6.out.1.below rfl b7) oy)
      clear oy ky b7 H6
      go_wp2_with fail
      refine (pdiff_c (.slice px k.length cx) (.slice py k.length cy) k.length k.length k k w7 (by omega) (by omega) H7.out.1.row H7.out.2).mono ?_
      rintro e w8 ⟨z, rfl, oz, b8⟩
      rw [diffP_self] at oz
      simp only [List.length_nil] at oz
      obtain ⟨pz, cz, rfl, _⟩ := u64_row oz
      have H8 := Lib.hid (H7.out.1.below rfl b8)
      clear oz b8 H7
      go_wp2_with fail
      refine (H8.out.get q rfl).mono ?_
      rintro e w9 ⟨rfl, o9⟩
      have H9 := Lib.hid o9
      clear o9 H8
      have hgl := gone_length (q := q) HA.out
      have hd1 := ins_is (q := q) (v := 9) HA.out
      have hd2 := del_is (q := q) (v := 9) HA.out
      have hl2 : (gone q k).length < 100 := by omega
      cases hq : look k q with
      | none =>
        have HQ := Lib.hid (And.intro (gone_no HA.out hq) (And.intro hd1 hd2))
        have HG := Lib.hid hl2
        clear hd1 hd2 hgl hq hl2
        simp only [Option.isSome_none, Option.getD_none]
        go_wp2_with fail
        refine (H9.out.putA ea q 9 rfl HE.out.1 (by omega)).mono ?_
        rintro e w10 ⟨rfl, o10⟩
        have H10 := Lib.hid o10
        clear o10 H9
        go_wp2_with fail
        refine (H10.out.del q rfl).mono ?_
        rw [HQ.out.2.1]
        rintro e w11 ⟨rfl, o11⟩
        have H11 := Lib.hid o11
        clear o11 H10
        go_wp2_with fail
        refine (H11.out.del q rfl).mono ?_
        rw [HQ.out.2.2]
        rintro e w12 ⟨rfl, o12⟩
        have e12 : delP q (delP q (insP q 9 k)) = k := HQ.out.1
        rw [e12] at o12
        have HS := Lib.hid o12
        clear o12 H11 e12
        go_wp2_with fail
        have mfact : ∀ (m : Nat) (hm : m + 1 < k.length), (k[m]'(by omega)).key < k[m + 1].key := fun m hm => List.pairwise_iff_getElem.1 HA.out m (m + 1) (by omega) hm (by omega)
        have HM := Lib.hid mfact
        clear mfact
        go_loopw [103] (fun s103 wr => ∃ j : Nat, j ≤ k.length ∧ s103 = .int .i64 j ∧ One w.heap.size w wr F 100 k (.slice px k.length cx) k) (fun s103 _ => k.length - (RowKit.intOf s103).toNat)
        case atStart => exact ⟨0, Nat.zero_le _, rfl, HS.out⟩
        case round =>
          clear HS
          obtain ⟨j, hj, rfl, o⟩ := hrel
          by_cases hlt : j < k.length
          · have hlt1 : (j : Int) < k.length := by omega
            obtain ⟨px', cx', e, _, _, _, hR, _⟩ := owns_row o.row
            injection e with e1 e2 e3
            subst e1 e3
            obtain ⟨a, rfl, r0, r1⟩ := hR j hlt
            have HS := Lib.hid (And.intro o hR)
            clear o hR
            go_upto_region 23 with fail
            obtain ⟨W, hW⟩ : ∃ W, W = wr.alloc (.cells #[.int .u64 k[j].key, .int .u64 k[j].val] 35) := ⟨_, rfl⟩
            rw [← hW]
            have hbW : Below wr.heap.size wr W := by rw [hW]; exact (Below.refl _ _).alloc (Nat.le_refl _) _
            have hbk : W.cell? ⟨wr.heap.size, 0, none⟩ = some (.int .u64 k[j].key) := by rw [hW]; exact (Blk.new wr 35 #[.int .u64 k[j].key, .int .u64 k[j].val]).cell 0
            clear hW r0 r1
            have hR' := HS.out.2.below hbW
            replace HS := Lib.hid (HS.out.1.below rfl hbW)
            clear hbW
            have hw3 : IntKind.i64.wrap ((j : Int) + 1) = (j : Int) + 1 := by rw [IntKind.wrap_i64]; omega
            by_cases hz : 0 < j
            · obtain ⟨m, hm⟩ : ∃ m : Nat, j - 1 = m := ⟨_, rfl⟩
              obtain ⟨a', ha', m0, m9⟩ := hR' m (by omega)
              clear m9
              injection ha' with ha'
              subst ha'
              have hzz : decide ((0 : Int) < (j : Int)) = true := decide_eq_true (by omega)
              have hw4 : IntKind.i64.wrap ((j : Int) - 1) = (m : Int) := by rw [IntKind.wrap_i64]; omega
              have hm1 : (m : Int) < k.length := by omega
              have hlt2 : k[m].key < k[j].key := by
                obtain rfl : j = m + 1 := by omega
                exact HM.out m hlt
              generalize k[m].key = km at m0 hlt2
              generalize k[j].key = kx at hbk hlt2 ⊢
              have hge1 : decide (kx ≤ km) = false := decide_eq_false (by omega)
              have hge2 : ¬ kx ≤ km := by omega
              clear hm hR' hlt2
              go_quiet (fail)
              go_wp2_with fail
              go_roundw
              case rel => exact ⟨j + 1, by omega, rfl, HS.out.below rfl (below_drewN (Below.refl _ _) _)⟩
              case measure => simp only [RowKit.intOf]; omega
            · have hzz : decide ((0 : Int) < (j : Int)) = false := decide_eq_false (by omega)
              generalize k[j].key = kx at hbk ⊢
              clear hR'
              go_quiet (fail)
              go_wp2_with fail
              go_roundw
              case rel => exact ⟨j + 1, by omega, rfl, HS.out.below rfl (below_drewN (Below.refl _ _) _)⟩
              case measure => simp only [RowKit.intOf]; omega
          · obtain rfl : j = k.length := by omega
            have hlt1 : ¬ (k.length : Int) < k.length := by omega
            have HS := Lib.hid o
            clear o
            go_wp2_with fail
            obtain ⟨S9, p9, s9, _⟩ := HS.out.ex
            refine (pairs_c S9 F 100 k wr p9).mono ?_
            rintro e w14 ⟨y, rfl, oy, ky, b14⟩
            obtain ⟨py, cy, rfl, _⟩ := owns_row oy
            have H14 := Lib.hid (And.intro (HS.out.below rfl b14) oy)
            clear oy ky b14 HS p9 s9
            go_wp2_with fail
            refine (same_c (.slice py k.length cy) (.slice px k.length cx) k.length k.length k k w14 (by omega) H14.out.2 H14.out.1.row).mono ?_
            rintro e w15 ⟨rfl, b15⟩
            have H15 := Lib.hid (H14.out.1.below rfl b15).bel
            clear b15 H14
            rw [decide_eq_true (rfl : k = k)]
            go_wp2_with fail
            go_ret
            exact ⟨rfl, H15.out⟩
      | some v =>
        have HQ := Lib.hid (And.intro (gone_yes HA.out hq) (And.intro hd1 hd2))
        have HG := Lib.hid hl2
        clear hd1 hd2 hgl hq hl2
        simp only [Option.isSome_some, Option.getD_some]
        go_wp2_with fail
        refine (H9.out.putA ea q 9 rfl HE.out.1 (by omega)).mono ?_
        rintro e w10 ⟨rfl, o10⟩
        have H10 := Lib.hid o10
        clear o10 H9
        go_wp2_with fail
        refine (H10.out.del q rfl).mono ?_
        rw [HQ.out.2.1]
        rintro e w11 ⟨rfl, o11⟩
        have H11 := Lib.hid o11
        clear o11 H10
        go_wp2_with fail
        refine (H11.out.del q rfl).mono ?_
        rw [HQ.out.2.2]
        rintro e w12 ⟨rfl, o12⟩
        have H12 := Lib.hid o12
        clear o12 H11
        go_wp2_with fail
        refine (One.putA (l := gone q k) ea q v H12.out rfl HE.out.1 HG.out).mono ?_
        rintro e w13 ⟨rfl, o13⟩
        rw [HQ.out.1] at o13
        have HS := Lib.hid o13
        clear o13 H12
        go_wp2_with fail
        have mfact : ∀ (m : Nat) (hm : m + 1 < k.length), (k[m]'(by omega)).key < k[m + 1].key := fun m hm => List.pairwise_iff_getElem.1 HA.out m (m + 1) (by omega) hm (by omega)
        have HM := Lib.hid mfact
        clear mfact
        go_loopw [103] (fun s103 wr => ∃ j : Nat, j ≤ k.length ∧ s103 = .int .i64 j ∧ One w.heap.size w wr F 100 k (.slice px k.length cx) k) (fun s103 _ => k.length - (RowKit.intOf s103).toNat)
        case atStart => exact ⟨0, Nat.zero_le _, rfl, HS.out⟩
        case round =>
          clear HS
          obtain ⟨j, hj, rfl, o⟩ := hrel
          by_cases hlt : j < k.length
          · have hlt1 : (j : Int) < k.length := by omega
            obtain ⟨px', cx', e, _, _, _, hR, _⟩ := owns_row o.row
            injection e with e1 e2 e3
            subst e1 e3
            obtain ⟨a, rfl, r0, r1⟩ := hR j hlt
            have HS := Lib.hid (And.intro o hR)
            clear o hR
            go_upto_region 23 with fail
            obtain ⟨W, hW⟩ : ∃ W, W = wr.alloc (.cells #[.int .u64 k[j].key, .int .u64 k[j].val] 35) := ⟨_, rfl⟩
            rw [← hW]
            have hbW : Below wr.heap.size wr W := by rw [hW]; exact (Below.refl _ _).alloc (Nat.le_refl _) _
            have hbk : W.cell? ⟨wr.heap.size, 0, none⟩ = some (.int .u64 k[j].key) := by rw [hW]; exact (Blk.new wr 35 #[.int .u64 k[j].key, .int .u64 k[j].val]).cell 0
            clear hW r0 r1
            have hR' := HS.out.2.below hbW
            replace HS := Lib.hid (HS.out.1.below rfl hbW)
            clear hbW
            have hw3 : IntKind.i64.wrap ((j : Int) + 1) = (j : Int) + 1 := by rw [IntKind.wrap_i64]; omega
            by_cases hz : 0 < j
            · obtain ⟨m, hm⟩ : ∃ m : Nat, j - 1 = m := ⟨_, rfl⟩
              obtain ⟨a', ha', m0, m9⟩ := hR' m (by omega)
              clear m9
              injection ha' with ha'
              subst ha'
              have hzz : decide ((0 : Int) < (j : Int)) = true := decide_eq_true (by omega)
              have hw4 : IntKind.i64.wrap ((j : Int) - 1) = (m : Int) := by rw [IntKind.wrap_i64]; omega
              have hm1 : (m : Int) < k.length := by omega
              have hlt2 : k[m].key < k[j].key := by
                obtain rfl : j = m + 1 := by omega
                exact HM.out m hlt
              generalize k[m].key = km at m0 hlt2
              generalize k[j].key = kx at hbk hlt2 ⊢
              have hge1 : decide (kx ≤ km) = false := decide_eq_false (by omega)
              have hge2 : ¬ kx ≤ km := by omega
              clear hm hR' hlt2
              go_quiet (fail)
              go_wp2_with fail
              go_roundw
              case rel => exact ⟨j + 1, by omega, rfl, HS.out.below rfl (below_drewN (Below.refl _ _) _)⟩
              case measure => simp only [RowKit.intOf]; omega
            · have hzz : decide ((0 : Int) < (j : Int)) = false := decide_eq_false (by omega)
              generalize k[j].key = kx at hbk ⊢
              clear hR'
              go_quiet (fail)
              go_wp2_with fail
              go_roundw
              case rel => exact ⟨j + 1, by omega, rfl, HS.out.below rfl (below_drewN (Below.refl _ _) _)⟩
              case measure => simp only [RowKit.intOf]; omega
          · obtain rfl : j = k.length := by omega
            have hlt1 : ¬ (k.length : Int) < k.length := by omega
            have HS := Lib.hid o
            clear o
            go_wp2_with fail
            obtain ⟨S9, p9, s9, _⟩ := HS.out.ex
            refine (pairs_c S9 F 100 k wr p9).mono ?_
            rintro e w14 ⟨y, rfl, oy, ky, b14⟩
            obtain ⟨py, cy, rfl, _⟩ := owns_row oy
            have H14 := Lib.hid (And.intro (HS.out.below rfl b14) oy)
            clear oy ky b14 HS p9 s9
            go_wp2_with fail
            refine (same_c (.slice py k.length cy) (.slice px k.length cx) k.length k.length k k w14 (by omega) H14.out.2 H14.out.1.row).mono ?_
            rintro e w15 ⟨rfl, b15⟩
            have H15 := Lib.hid (H14.out.1.below rfl b15).bel
            clear b15 H14
            rw [decide_eq_true (rfl : k = k)]
            go_wp2_with fail
            go_ret
            exact ⟨rfl, H15.out⟩
end Go.Proofs.YtfnnfgiflhpefaaDoor
