/-
  The reference of the layer plain (amblerref26): Diff.
-/
import Derived.Test.YtfnnfgiflhpefaaDoorRefE
namespace Go.Proofs.YtfnnfgiflhpefaaDoor
open Go.RowKit Go.Lib

/-- What lies in 'both' behind some keys. -/
def DB (l1 l2 : List Pr2) (ks : List Int) (lb : List Pr2) : Prop := (keysR lb).Nodup ∧ lb.length ≤ ks.length ∧ ∀ q, (look lb q).isSome = true ↔ q ∈ ks ∧ look l1 q ≠ look l2 q
theorem DB.zero (l1 l2 : List Pr2) : DB l1 l2 [] [] := ⟨by simp [keysR], Nat.le_refl _, fun q => by simp [look]⟩
theorem DB.same {l1 l2 lb : List Pr2} {ks : List Int} {k : Int} (H : DB l1 l2 ks lb) (h : look l1 k = look l2 k) : DB l1 l2 (ks ++ [k]) lb := by
  refine ⟨H.1, by have := H.2.1; simp; omega, fun q => ?_⟩
  rw [H.2.2]
  constructor
  · rintro ⟨h1, h2⟩; exact ⟨List.mem_append_left _ h1, h2⟩
  · rintro ⟨h1, h2⟩
    rcases List.mem_append.1 h1 with c | c
    · exact ⟨c, h2⟩
    · rw [List.mem_singleton.1 c] at h2; exact absurd h h2
theorem DB.diff {l1 l2 lb lb' : List Pr2} {ks : List Int} {k : Int} (H : DB l1 l2 ks lb) (h : look l1 k ≠ look l2 k) (hp : PutTo 1073741824 lb k 0 lb') (hl : lb.length < 1000) : DB l1 l2 (ks ++ [k]) lb' := by
  refine ⟨hp.nodup H.1, ?_, fun q => ?_⟩
  · rw [hp.len]
    have := H.2.1
    simp only [List.length_append, List.length_cons, List.length_nil]
    split
    · omega
    · split <;> omega
  · have hok : okP 1073741824 lb k := .inr (by omega)
    rw [(hp.look_ q).1 hok]
    by_cases hq : q = k
    · rw [if_pos hq, hq]
      exact ⟨fun _ => ⟨by simp, h⟩, fun _ => rfl⟩
    · rw [if_neg hq, H.2.2]
      constructor
      · rintro ⟨h1, h2⟩; exact ⟨List.mem_append_left _ h1, h2⟩
      · rintro ⟨h1, h2⟩
        rcases List.mem_append.1 h1 with c | c
        · exact ⟨c, h2⟩
        · exact absurd (List.mem_singleton.1 c) hq
def pk (l1 l2 : List Pr2) (i : Nat) : List Int := ([keysR l1, keysR l2].take i).flatten
theorem mem_keys {l : List Pr2} {q : Int} (h : look l q ≠ none) : q ∈ keysR l := Classical.byContradiction fun hn => h (look_none_of fun x hx e => hn (e ▸ List.mem_map.2 ⟨x, hx, rfl⟩))
theorem mem_pk {l1 l2 : List Pr2} {q : Int} (h : look l1 q ≠ look l2 q) : q ∈ pk l1 l2 2 := by
  simp only [pk, List.take, List.flatten_cons, List.flatten_nil, List.append_nil, List.mem_append]
  by_cases h1 : look l1 q = none
  · exact .inr (mem_keys fun h2 => h (h1.trans h2.symm))
  · exact .inl (mem_keys h1)
/-- Where the walk of Diff stands. -/
def DSt (w : World) (r1 r2 : Nat) (l1 l2 : List Pr2) (ks : List Int) (wr : World) : Prop :=
  ∃ lb Tb, RF wr Tb w.heap.size 1073741824 lb ∧ (∀ k, Tb k → w.heap.size ≤ k ∧ k ≠ w.heap.size + 1) ∧ DB l1 l2 ks lb ∧ Below w.heap.size w wr ∧ Blk wr (w.heap.size + 1) 25 #[.pointer (some ⟨r1, 0, none⟩), .pointer (some ⟨r2, 0, none⟩)]
theorem DSt.same {w wr : World} {r1 r2 : Nat} {l1 l2 : List Pr2} {ks : List Int} {k : Int} (H : DSt w r1 r2 l1 l2 ks wr) (h : look l1 k = look l2 k) : DSt w r1 r2 l1 l2 (ks ++ [k]) wr := by
  obtain ⟨lb, Tb, h1, h2, h3, h4, h5⟩ := H
  exact ⟨lb, Tb, h1, h2, h3.same h, h4, h5⟩
theorem DSt.put {w wr : World} {r1 r2 : Nat} {l1 l2 : List Pr2} {ks : List Int} {k : Int} (H : DSt w r1 r2 l1 l2 ks wr) (h : look l1 k ≠ look l2 k) (hk : ks.length ≤ 900) :
    Calls Tryd.prog 20 #[.pointer (some ⟨w.heap.size, 0, none⟩), .int .u64 k, .int .u64 0] wr fun e w' => (∃ n : Int, e = .returned (.int .i64 n)) ∧ DSt w r1 r2 l1 l2 (ks ++ [k]) w' := by
  obtain ⟨lb, Tb, h1, h2, h3, h4, h5⟩ := H
  have hl : lb.length < 1000 := by have := h3.2.1; omega
  refine (putr_c Tb w.heap.size 1073741824 lb k 0 wr h1 hl).mono ?_
  rintro e w' ⟨rfl, T', l', hp, g1, g2, g3⟩
  have hlt := h5.lt
  refine ⟨⟨_, rfl⟩, l', T', g1, fun i hi => ?_, h3.diff h hp hl, h4.trans (g2.below (fun i hi => by omega) h4.size), g2.blk h5 (by omega)⟩
  rcases g3 i hi with c | c
  · exact h2 i c
  · exact ⟨by have := h4.size; omega, by omega⟩

set_option maxHeartbeats 4000000 in
set_option maxRecDepth 100000 in
theorem diffr_c (T1 T2 : Nat → Prop) (r1 r2 : Nat) (m1 m2 : Int) (l1 l2 : List Pr2) (w : World) (H1 : RF w T1 r1 m1 l1) (H2 : RF w T2 r2 m2 l2) (hlen : l1.length + l2.length ≤ 400) :
    Calls Tryd.prog 18 #[.pointer (some ⟨r1, 0, none⟩), .pointer (some ⟨r2, 0, none⟩)] w fun e w' => ∃ v' s, e = .returned v' ∧ SortP s ∧ (∀ q, (look s q).isSome = true ↔ look l1 q ≠ look l2 q) ∧ w'.ownsRow w.heap.size 33 1 v' s.length (ints (keysR s)) ∧ Below w.heap.size w w' := by
  have HX := Lib.hid (And.intro H1 (And.intro H2 hlen))
  have hF : ∀ i, i < 2 → ∃ rf mf lf p c, (∃ Tf, RF w Tf rf mf lf) ∧ pk l1 l2 (i + 1) = pk l1 l2 i ++ keysR lf ∧ lf.length ≤ 400 ∧ (∀ wr, Blk wr (w.heap.size + 1) 25 #[.pointer (some ⟨r1, 0, none⟩), .pointer (some ⟨r2, 0, none⟩)] → wr.cell? ⟨w.heap.size + 1, i, none⟩ = some (.pointer (some ⟨rf, 0, none⟩))) ∧
      w.cell? ⟨rf, 1, none⟩ = some (.slice p lf.length c) ∧ KeysAt w p (keysR lf) := by
    intro i hi
    match i, hi with
    | 0, _ =>
      obtain ⟨vk, vv, h1, h2, _⟩ := H1.ex
      obtain ⟨p, c, rfl, _, _, _, hR⟩ := u64_row h2
      exact ⟨r1, m1, l1, p, c, ⟨T1, H1⟩, by simp [pk], by omega, fun wr hb => hb.cell 0, h1.cell 1, fun i hi => by have := hR i hi; rwa [Nat.mul_one] at this⟩
    | 1, _ =>
      obtain ⟨vk, vv, h1, h2, _⟩ := H2.ex
      obtain ⟨p, c, rfl, _, _, _, hR⟩ := u64_row h2
      exact ⟨r2, m2, l2, p, c, ⟨T2, H2⟩, by simp [pk], by omega, fun wr hb => hb.cell 1, h1.cell 1, fun i hi => by have := hR i hi; rwa [Nat.mul_one] at this⟩
  have HF := Lib.hid hF
  clear H1 H2 hF hlen
  go_enter Tryd.func18, Tryd.ntmps18
  go_wp2_with fail
  go_loopw [23] (fun s23 wr => ∃ i : Nat, i ≤ 2 ∧ s23 = .int .i64 i ∧ DSt w r1 r2 l1 l2 (pk l1 l2 i) wr) (fun s23 _ => 2 - (RowKit.intOf s23).toNat)
  case atStart =>
    refine ⟨0, by omega, rfl, [], fun i => i = w.heap.size, ⟨⟨.slice none 0 0, .slice none 0 0, (Blk.new _ _ _).alloc _, World.ownsRow_nil _ _ _ _, World.ownsRow_nil _ _ _ _, fun k hk => (by cases hk), fun k hk => (by cases hk)⟩, rfl, fun k hk => by subst hk; simp; omega, Nat.zero_le _⟩, fun k hk => by omega, DB.zero _ _, ((Below.refl _ _).alloc (Nat.le_refl _) _).alloc (by simp) _, ?_⟩
    have := Blk.new (w.alloc (.cells #[.int .i64 1073741824, .slice none 0 0, .slice none 0 0] 42)) 25 #[.pointer (some ⟨r1, 0, none⟩), .pointer (some ⟨r2, 0, none⟩)]
    simpa using this
  case round =>
    obtain ⟨i, hi, rfl, hD⟩ := hrel
    by_cases hi2 : i < 2
    · have hlt1 : (i : Int) < 2 := by omega
      obtain ⟨rf, mf, lf, p, c, hRF, hpk, hlf, hcell, hkc, hkeys⟩ := HF.out i hi2
      have hlf4 : lf.length ≤ 400 := hlf
      have hb : Below w.heap.size w wr := by obtain ⟨_, _, _, _, _, h, _⟩ := hD; exact h
      have c0 : wr.cell? ⟨w.heap.size + 1, i, none⟩ = some (.pointer (some ⟨rf, 0, none⟩)) := by obtain ⟨_, _, _, _, _, _, h⟩ := hD; exact hcell wr h
      have c1 : wr.cell? ⟨rf, 1, none⟩ = some (.slice p lf.length c) := (hb.cell (block_lt_of_cell hkc)).trans hkc
      have HD := Lib.hid hD
      have HK := Lib.hid (And.intro hpk (And.intro hkeys hlf))
      clear hD hb hkc hkeys hpk hcell hRF hlf
      go_wp2_with fail
      go_loopw [32] (fun s32 wr => ∃ j : Nat, j ≤ lf.length ∧ s32 = .int .i64 j ∧ DSt w r1 r2 l1 l2 (pk l1 l2 i ++ (keysR lf).take j) wr) (fun s32 _ => lf.length - (RowKit.intOf s32).toNat)
      case atStart => exact ⟨0, Nat.zero_le _, rfl, by rw [List.take_zero, List.append_nil]; exact HD.out⟩
      case round =>
        clear HD
        obtain ⟨j, hj, rfl, hD⟩ := hrel
        by_cases hjl : j < lf.length
        · have hjl1 : (j : Int) < lf.length := by omega
          obtain ⟨a, rfl, hkj⟩ := HK.out.2.1 j (by simp [keysR]; omega)
          obtain ⟨kx, hkx⟩ : ∃ kx, (keysR lf)[j]? = some kx := ⟨_, List.getElem?_eq_getElem (by simp [keysR]; omega)⟩
          rw [(List.getElem?_eq_some_iff.1 hkx).2] at hkj
          have hb : Below w.heap.size w wr := by obtain ⟨_, _, _, _, _, h, _⟩ := hD; exact h
          have ck : wr.cell? (a.add j) = some (.int .u64 kx) := (hb.cell (block_lt_of_cell hkj)).trans hkj
          have hks : (pk l1 l2 i ++ (keysR lf).take j).length ≤ 900 := by
            have h1 : (pk l1 l2 i).length ≤ 500 := by
              have := HX.out.2.2
              match i, hi2 with
              | 0, _ => simp [pk]
              | 1, _ => simp [pk, keysR]; omega
            have h2 := HK.out.2.2
            have h3 : ((keysR lf).take j).length ≤ 400 := by have := hlf4; rw [List.length_take]; simp [keysR]; omega
            rw [List.length_append]; omega
          have hw3 : IntKind.i64.wrap ((j : Int) + 1) = (j : Int) + 1 := by have := HK.out.2.2; rw [IntKind.wrap_i64]; omega
          have HD := Lib.hid hD
          clear hD hkj
          by_cases hs : look l1 kx = look l2 kx
          · have HQ := Lib.hid hs
            have HD2 := Lib.hid (HD.out.same hs)
            clear hs
            go_wp2_with fail
            refine (getr_c T1 r1 m1 l1 kx wr (HX.out.1.chg (S' := fun _ => False) (Chg.of hb) fun _ _ h => h)).mono ?_
            rw [HQ.out]
            obtain ⟨x0, hx0⟩ : ∃ x0, x0 = (look l2 kx).getD 0 := ⟨_, rfl⟩
            obtain ⟨b0, hb0⟩ : ∃ b0, b0 = (look l2 kx).isSome := ⟨_, rfl⟩
            rw [← hx0, ← hb0]
            have HE := Lib.hid (And.intro hx0 hb0)
            clear hx0 hb0
            rintro e w' ⟨rfl, rfl⟩
            go_wp2_with fail
            refine (getr_c T2 r2 m2 l2 kx wr (HX.out.2.1.chg (S' := fun _ => False) (Chg.of hb) fun _ _ h => h)).mono ?_
            rw [← HE.out.1, ← HE.out.2]
            rintro e w' ⟨rfl, rfl⟩
            have hxx : (x0 == x0) = true := beq_iff_eq.2 rfl
            have hbb : (b0 == b0) = true := beq_iff_eq.2 rfl
            go_wp2_with fail
            go_roundw
            case rel =>
              refine ⟨j + 1, by omega, rfl, ?_⟩
              have h8 := HD2.out
              rw [List.append_assoc] at h8
              have h9 : (keysR lf).take (j + 1) = (keysR lf).take j ++ [kx] := by rw [List.take_add_one, hkx]; rfl
              rw [h9]
              exact h8
            case measure => simp only [RowKit.intOf]; omega
          · cases ha : look l1 kx with
            | none =>
              cases hbk : look l2 kx with
              | none => exact absurd (ha.trans hbk.symm) hs
              | some v =>
                have HQ := Lib.hid (And.intro ha hbk)
                have HN := Lib.hid (HD.out.put hs hks)
                clear ha hbk hs HD
                go_wp2_with fail
                refine (getr_c T1 r1 m1 l1 kx wr (HX.out.1.chg (S' := fun _ => False) (Chg.of hb) fun _ _ h => h)).mono ?_
                rw [HQ.out.1]
                rintro e w' ⟨rfl, rfl⟩
                simp only [Option.getD_none, Option.isSome_none]
                go_wp2_with fail
                refine (getr_c T2 r2 m2 l2 kx wr (HX.out.2.1.chg (S' := fun _ => False) (Chg.of hb) fun _ _ h => h)).mono ?_
                rw [HQ.out.2]
                rintro e w' ⟨rfl, rfl⟩
                simp only [Option.getD_some, Option.isSome_some]
                go_wp2_with fail
                refine HN.out.mono ?_
                rintro e w' ⟨⟨m, rfl⟩, hD2⟩
                have HD2 := Lib.hid hD2
                clear hD2
                go_wp2_with fail
                go_roundw
                case rel =>
                  refine ⟨j + 1, by omega, rfl, ?_⟩
                  have h8 := HD2.out
                  rw [List.append_assoc] at h8
                  have h9 : (keysR lf).take (j + 1) = (keysR lf).take j ++ [kx] := by rw [List.take_add_one, hkx]; rfl
                  rw [h9]
                  exact h8
                case measure => simp only [RowKit.intOf]; omega
            | some v =>
              cases hbk : look l2 kx with
              | none =>
                have HQ := Lib.hid (And.intro ha hbk)
                have HN := Lib.hid (HD.out.put hs hks)
                clear ha hbk hs HD
                go_wp2_with fail
                refine (getr_c T1 r1 m1 l1 kx wr (HX.out.1.chg (S' := fun _ => False) (Chg.of hb) fun _ _ h => h)).mono ?_
                rw [HQ.out.1]
                rintro e w' ⟨rfl, rfl⟩
                simp only [Option.getD_some, Option.isSome_some]
                go_wp2_with fail
                refine (getr_c T2 r2 m2 l2 kx wr (HX.out.2.1.chg (S' := fun _ => False) (Chg.of hb) fun _ _ h => h)).mono ?_
                rw [HQ.out.2]
                rintro e w' ⟨rfl, rfl⟩
                simp only [Option.getD_none, Option.isSome_none]
                go_wp2_with fail
                refine HN.out.mono ?_
                rintro e w' ⟨⟨m, rfl⟩, hD2⟩
                have HD2 := Lib.hid hD2
                clear hD2
                go_wp2_with fail
                go_roundw
                case rel =>
                  refine ⟨j + 1, by omega, rfl, ?_⟩
                  have h8 := HD2.out
                  rw [List.append_assoc] at h8
                  have h9 : (keysR lf).take (j + 1) = (keysR lf).take j ++ [kx] := by rw [List.take_add_one, hkx]; rfl
                  rw [h9]
                  exact h8
                case measure => simp only [RowKit.intOf]; omega
              | some u =>
                have huv : v ≠ u := fun e => hs (by rw [ha, hbk, e])
                have huv1 : (v == u) = false := beq_eq_false_iff_ne.2 huv
                have huv2 : (v != u) = true := bne_iff_ne.2 huv
                have HQ := Lib.hid (And.intro ha hbk)
                have HN := Lib.hid (HD.out.put hs hks)
                clear ha hbk hs HD
                go_wp2_with fail
                refine (getr_c T1 r1 m1 l1 kx wr (HX.out.1.chg (S' := fun _ => False) (Chg.of hb) fun _ _ h => h)).mono ?_
                rw [HQ.out.1]
                rintro e w' ⟨rfl, rfl⟩
                simp only [Option.getD_some, Option.isSome_some]
                go_wp2_with fail
                refine (getr_c T2 r2 m2 l2 kx wr (HX.out.2.1.chg (S' := fun _ => False) (Chg.of hb) fun _ _ h => h)).mono ?_
                rw [HQ.out.2]
                rintro e w' ⟨rfl, rfl⟩
                simp only [Option.getD_some, Option.isSome_some]
                go_wp2_with fail
                refine HN.out.mono ?_
                rintro e w' ⟨⟨m, rfl⟩, hD2⟩
                have HD2 := Lib.hid hD2
                clear hD2
                go_wp2_with fail
                go_roundw
                case rel =>
                  refine ⟨j + 1, by omega, rfl, ?_⟩
                  have h8 := HD2.out
                  rw [List.append_assoc] at h8
                  have h9 : (keysR lf).take (j + 1) = (keysR lf).take j ++ [kx] := by rw [List.take_add_one, hkx]; rfl
                  rw [h9]
                  exact h8
                case measure => simp only [RowKit.intOf]; omega
        · obtain rfl : j = lf.length := by omega
          have hjl1 : ¬ (lf.length : Int) < lf.length := by omega
          have hw3 : IntKind.i64.wrap ((i : Int) + 1) = (i : Int) + 1 := by rw [IntKind.wrap_i64]; omega
          have HD := Lib.hid hD
          clear hD
          go_wp2_with fail
          go_roundw
          case rel =>
            refine ⟨i + 1, by omega, rfl, ?_⟩
            have h8 := HD.out
            rw [List.take_of_length_le (by simp [keysR])] at h8
            rw [HK.out.1]
            exact h8
          case measure => simp only [RowKit.intOf]; omega
    · obtain rfl : i = 2 := by omega
      have hD' := hD
      obtain ⟨lb, Tb, g1, g2, g3, g4, g5⟩ := hD
      have HD := Lib.hid (And.intro g1 (And.intro g3 g4))
      have hbl : lb.length ≤ 500 := by
        have h1 := g3.2.1
        have h2 := HX.out.2.2
        simp [pk, keysR] at h1
        omega
      clear g1 g2 g3 g4 g5 hD'
      go_wp2_with fail
      have hbA : Below wr.heap.size wr (wr.alloc (.cells #[] 33)) := (Below.refl _ _).alloc (Nat.le_refl _) _
      refine (sortedr_c Tb w.heap.size 1073741824 lb _ (HD.out.1.below hbA) HD.out.2.1.1).mono ?_
      rintro e w5 ⟨v5, s, rfl, hSA, hO5, hb5⟩
      obtain ⟨p5, c5, rfl, hl5, _, _, hR5, _⟩ := owns_row (owns0 hO5)
      have hb6 : Below wr.heap.size wr w5 := hbA.trans (hb5.mono hbA.size)
      have hO6 : w5.ownsRow w.heap.size 33 1 (.slice (some ⟨wr.heap.size, 0, none⟩) 0 0) 0 [] := owns_mono (owns_old hb5 (row_nil wr 33 1)) HD.out.2.2.size
      have hne : ∀ k, (Value.slice (some ⟨wr.heap.size, 0, none⟩) 0 0).ownBlock = some k → (Value.slice p5 lb.length c5).ownBlock ≠ some k := fun k hk hk2 => by
        have h1 : wr.heap.size = k := Option.some.inj hk
        have h2 := (hO5.lt k hk2).1
        simp at h2
        omega
      have HS := Lib.hid (And.intro hSA (And.intro (owns0 hO5) (And.intro hO6 (And.intro (HD.out.2.2.trans (hb6.mono HD.out.2.2.size)) hne))))
      clear hSA hO5 hb5 hR5 hb6 hO6 hbA hne
      go_wp2_with fail
      go_loopw [14, 65] (fun s14 s65 wr => ∃ j : Nat, j ≤ lb.length ∧ s65 = .int .i64 j ∧ wr.ownsRow w.heap.size 33 1 s14 j (ints ((keysR s).take j)) ∧ Below w.heap.size w wr ∧ wr.ownsRow 0 39 2 (.slice p5 lb.length c5) lb.length (flat2 s) ∧ ∀ k, s14.ownBlock = some k → (Value.slice p5 lb.length c5).ownBlock ≠ some k) (fun _ s65 _ => lb.length - (RowKit.intOf s65).toNat)
      case atStart => exact ⟨0, Nat.zero_le _, rfl, by rw [List.take_zero]; exact HS.out.2.2.1, HS.out.2.2.2.1, HS.out.2.1, HS.out.2.2.2.2⟩
      case round =>
        obtain ⟨j, hj, rfl, hO, hb, hS5, hne⟩ := hrel
        have hsl := HS.out.1.1
        obtain ⟨p7, c7, rfl, _⟩ := u64_row hO
        by_cases hjl : j < lb.length
        · have hjl1 : (j : Int) < lb.length := by omega
          obtain ⟨p9, c9, e9, _, _, _, hR9, _⟩ := owns_row hS5
          injection e9 with e10 _ e11
          subst e10 e11
          obtain ⟨a, rfl, ck0, ck1⟩ := hR9 j (by omega)
          obtain ⟨kx, hkx⟩ : ∃ kx, kx = (s[j]'(by omega)).key := ⟨_, rfl⟩
          rw [← hkx] at ck0
          generalize (s[j]'(by omega)).val = vx at ck1
          have hw3 : IntKind.i64.wrap ((j : Int) + 1) = (j : Int) + 1 := by rw [IntKind.wrap_i64]; omega
          have hA1 : Below wr.heap.size wr (wr.alloc (.cells #[.int .u64 kx, .int .u64 vx] 39)) := (Below.refl _ _).alloc (Nat.le_refl _) _
          have hA2 : Below wr.heap.size wr ((wr.alloc (.cells #[.int .u64 kx, .int .u64 vx] 39)).alloc (.cells #[.int .u64 kx] 33)) := hA1.alloc (by simp) _
          obtain ⟨v8, w8, g1, g2, g3, g4⟩ := app_u64 w.heap.size 40 _ j ((keysR s).take j) (owns_old hA2 hO) (.slice (some ⟨wr.heap.size + 1, 0, none⟩) 1 1) 1 [kx] (.inr ⟨⟨wr.heap.size + 1, 0, none⟩, 1, rfl, rfl, fun t u ht => by
            have hB := Blk.new (wr.alloc (.cells #[.int .u64 kx, .int .u64 vx] 39)) 33 #[.int .u64 kx]
            have e : (wr.alloc (.cells #[.int .u64 kx, .int .u64 vx] 39)).heap.size = wr.heap.size + 1 := by simp
            rw [e] at hB
            rw [Addr.add_lit, Nat.zero_add, hB.cell]
            match t, ht with
            | 0, ht => exact ht
            | t + 1, ht => simp [ints] at ht⟩) (by omega) (by have := hb.size; have := hA2.size; omega)
          have hgb : Below w.heap.size wr w8 := (hA2.mono hb.size).trans ((Chg.grown g3).below (fun k hk => (hO.lt k hk).1) (by have := hb.size; have := hA2.size; omega))
          have hSA2 := owns_chg (S := fun _ => False) (Chg.of hA2) hS5 fun _ _ h => h
          have hS8 := owns_chg (Chg.grown g3) hSA2 fun k hk hk2 => hne k hk2 hk
          have hne8 : ∀ k, v8.ownBlock = some k → (Value.slice (some a) lb.length c5).ownBlock ≠ some k := fun k hk hk2 => by
            rcases g4 with g4 | g4
            · exact hne k (g4.symm.trans hk) hk2
            · have h1 : _ = k := Option.some.inj (g4.symm.trans hk)
              have h2 := (hS5.lt k hk2).2
              have h3 := hA2.size
              omega
          obtain ⟨p8, c8, rfl, _⟩ := u64_row g2
          have HD := Lib.hid (And.intro g2 (And.intro (hb.trans hgb) (And.intro hS8 (And.intro hne8 hkx))))
          clear hO hb hA1 hA2 g2 g3 g4 hgb hkx hS5 hne hSA2 hS8 hne8 hR9
          go_wp2_with (at_builtin; refine Lib.wpList_append_run _ rfl _ _ _ _ rfl _ _ rfl rfl _ _ g1 ?_)
          go_roundw
          case rel =>
            refine ⟨j + 1, by omega, rfl, ?_, HD.out.2.1, HD.out.2.2.1, HD.out.2.2.2.1⟩
            have h9 : (keysR s).take (j + 1) = (keysR s).take j ++ [kx] := by
              rw [List.take_add_one, List.getElem?_eq_getElem (by simp [keysR]; omega)]
              simp [keysR, HD.out.2.2.2.2]
            rw [h9]
            exact HD.out.1
          case measure => simp only [RowKit.intOf]; omega
        · obtain rfl : j = lb.length := by omega
          have hjl1 : ¬ (lb.length : Int) < lb.length := by omega
          have HD2 := Lib.hid (And.intro hO hb)
          clear hO hb hS5 hne
          go_wp2_with fail
          go_ret
          obtain ⟨hSA, _, _, _, _⟩ := HS.out
          refine ⟨_, rfl, s, hSA.2.1, fun q => ?_, ?_, HD2.out.2⟩
          · rw [hSA.2.2, List.take_of_length_le (Nat.le_refl _), HD.out.2.1.2.2]
            constructor
            · exact fun h => h.2
            · intro h
              exact ⟨mem_pk h, h⟩
          · have h9 := HD2.out.1
            rw [List.take_of_length_le (by simp [keysR]; omega)] at h9
            rw [hsl]
            exact h9
end Go.Proofs.YtfnnfgiflhpefaaDoor
