/-
  The reference of the layer pause (amblerref34): Rows.
-/
import Derived.Test.YtajklhlgakpgiaaDRefT
import Derived.BigRegion
namespace Go.Proofs.Ytajklhlgakpgiaa
open Go.RowKit Go.Lib

theorem rleS_last (acc : List Pr2) (n : Int) : ∃ v, (rleS acc n).getLast? = some ⟨n, v⟩ := by
  unfold rleS
  cases acc.getLast? with
  | none => exact ⟨1, rfl⟩
  | some x =>
    simp only
    split
    · exact ⟨_, List.getLast?_concat⟩
    · exact ⟨_, List.getLast?_concat⟩
theorem rle_last {L : List Int} {i : Nat} {y : Int} (h : L[i]? = some y) : ∃ (acc : List Pr2) (v : Int), rle (L.take (i + 1)) = acc ++ [⟨y, v⟩] := by
  rw [List.take_add_one, h]
  show ∃ (acc : List Pr2) (v : Int), rle (L.take i ++ [y]) = _
  rw [rle_snoc]
  obtain ⟨v, hv⟩ := rleS_last (rle (L.take i)) y
  obtain ⟨acc, ha⟩ := List.getLast?_eq_some_iff.1 hv
  exact ⟨acc, v, ha⟩
theorem rleS_len (acc : List Pr2) (n : Int) : (rleS acc n).length ≤ acc.length + 1 := by
  unfold rleS
  cases acc.getLast? with
  | none => simp
  | some x =>
    simp only
    split
    · simp
    · simp
theorem rle_len (L : List Int) (i : Nat) : (rle (L.take i)).length ≤ i := by
  induction i with
  | zero => simp [rle]
  | succ i ih =>
    rw [List.take_add_one]
    cases h : L[i]? with
    | none => simp only [Option.toList_none, List.append_nil]; omega
    | some y =>
      simp only [Option.toList_some]
      rw [rle_snoc]
      have := rleS_len (rle (L.take i)) y
      omega
theorem rle_val {L : List Int} {i : Nat} : ∀ x ∈ rle (L.take i), 0 ≤ x.val ∧ x.val ≤ i := by
  induction i with
  | zero => intro x hx; simp [rle] at hx
  | succ i ih =>
    rw [List.take_add_one]
    cases h : L[i]? with
    | none => simp only [Option.toList_none, List.append_nil]; intro x hx; have := ih x hx; omega
    | some y =>
      simp only [Option.toList_some]
      rw [rle_snoc]
      intro x hx
      unfold rleS at hx
      cases hl : (rle (L.take i)).getLast? with
      | none => rw [hl] at hx; simp only [List.mem_singleton] at hx; subst hx; simp only; omega
      | some z =>
        rw [hl] at hx
        simp only at hx
        have hz := ih z (List.mem_of_getLast? hl)
        split at hx
        · rcases List.mem_append.1 hx with hx | hx
          · have := ih x (List.dropLast_subset _ hx); omega
          · rw [List.mem_singleton.1 hx]; simp only; omega
        · rcases List.mem_append.1 hx with hx | hx
          · have := ih x hx; omega
          · rw [List.mem_singleton.1 hx]; simp only; omega
theorem then_normal {K : Act → World → Prop} {Q : Exit → Act → World → Prop} {a : Act} {w : World} (h : K a w) : Exit.then K Q Exit.normal a w := h
theorem row_nil (w : World) (e : TypeId) (z : Nat) : (w.alloc (.cells #[] e)).ownsRow w.heap.size e z (.slice (some ⟨w.heap.size, 0, none⟩) 0 0) 0 [] :=
  World.ownsRow_lit w #[] 0 (Nat.le_refl _) (by unfold maxLen; omega) (by simp)
/-- The store of a row's count. -/
theorem often_store (B : Nat) (W : World) (g m c k : Nat) (acc : List Pr2) (key v0 v1 : Int) (hO : W.ownsRow B 42 2 (.slice (some ⟨g, 0, none⟩) m c) m (flat2 (acc ++ [⟨key, v0⟩]))) (hk : acc.length = k) (hm : m = k + 1) :
    W.cell? ⟨g, k * 2 + 1, none⟩ = some (.int .i64 v0) ∧ W.frozen? ⟨g, k * 2 + 1, none⟩ = false ∧
      (W.setCell ⟨g, k * 2 + 1, none⟩ (.int .i64 v1)).ownsRow B 42 2 (.slice (some ⟨g, 0, none⟩) m c) m (flat2 (acc ++ [⟨key, v1⟩])) ∧ Chg (fun i => i = g) W (W.setCell ⟨g, k * 2 + 1, none⟩ (.int .i64 v1)) := by
  obtain ⟨⟨e0, e1⟩ | ⟨g', cap, cur, e0, hB, hg, hc, hcm, hsz, ht⟩⟩ := And.intro hO.2 trivial
  · cases e0
  · injection e0 with e1 e2 e3
    injection e1 with e1
    injection e1 with e1
    subst e1 e3
    have hlen : (acc ++ [(⟨key, v0⟩ : Pr2)]).length = m := by simp; omega
    have hk1 : k < (acc ++ [(⟨key, v0⟩ : Pr2)]).length := by omega
    have hx : (acc ++ [(⟨key, v0⟩ : Pr2)])[k] = ⟨key, v0⟩ := by
      rw [List.getElem_append_right (by omega)]; simp [hk]
    refine ⟨?_, frozen_of_row W g _ cur _ hg, ⟨by rw [flat2_length]; simp; omega, .inr ⟨g, c, cur.setIfInBounds (k * 2 + 1) (.int .i64 v1), rfl, hB, (show Blk W g 42 cur from hg).set_ (k * 2 + 1) _, hc, hcm, by simpa using hsz, ?_⟩⟩, (Chg.refl (fun i => i = g) W).set_ (b := g) rfl _ _⟩
    · obtain ⟨p9, c9, e9, _, _, _, hR9, _⟩ := owns_row (owns0 hO)
      injection e9 with e10 _ _
      obtain ⟨a, e11, _, h12⟩ := hR9 k hk1
      rw [← e10] at e11
      injection e11 with e11
      subst e11
      rw [hx] at h12
      simpa [Addr.add_lit] using h12
    · have h5 := flat2_val (acc ++ [(⟨key, v0⟩ : Pr2)]) k hk1 v1
      rw [show (acc ++ [(⟨key, v0⟩ : Pr2)]).take k ++ (⟨((acc ++ [(⟨key, v0⟩ : Pr2)])[k]).key, v1⟩ :: (acc ++ [(⟨key, v0⟩ : Pr2)]).drop (k + 1)) = acc ++ [⟨key, v1⟩] by
        rw [hx, List.take_left' hk, List.drop_of_length_le (by simp; omega)]] at h5
      rw [← h5, ← ht]
      simp [List.take_set]

set_option maxHeartbeats 2000000 in
set_option maxRecDepth 100000 in
theorem rowsr_c (T : Nat → Prop) (r : Nat) (L : List Int) (w : World) (H : RN w T r L) :
    Calls Try.prog 23 #[.pointer (some ⟨r, 0, none⟩)] w fun e w' => ∃ v', e = .returned v' ∧ w'.ownsRow w.heap.size 42 2 v' (rle L).length (flat2 (rle L)) ∧ Below w.heap.size w w' := by
  obtain ⟨v, h1, h2, _⟩ := H.ex
  have hsm := H.small
  obtain ⟨p, c, rfl, hn, hnc, _, hR⟩ := num_row h2
  have c0 := h1.cell 0
  have mixed : Try.prog.follows .mixedOrders = true := by kernel_rfl
  have HR := Lib.hid (And.intro hR c0)
  clear h1 h2 H hR
  go_enter Try.func23, Try.ntmps23
  have hA0 : Below w.heap.size w (w.alloc (.cells #[] 42)) := (Below.refl _ _).alloc (Nat.le_refl _) _
  have c0' := (hA0.cell (block_lt_of_cell c0)).trans c0
  go_wp2_with fail
  clear c0 c0'
  go_loopw [3, 12] (fun s3 s12 wr => ∃ (i g cc : Nat), i ≤ L.length ∧ s12 = .int .i64 i ∧ s3 = .slice (some ⟨g, 0, none⟩) (rle (L.take i)).length cc ∧ w.heap.size ≤ g ∧ wr.ownsRow w.heap.size 42 2 (.slice (some ⟨g, 0, none⟩) (rle (L.take i)).length cc) (rle (L.take i)).length (flat2 (rle (L.take i))) ∧ Below w.heap.size w wr) (fun _ s12 _ => L.length - (RowKit.intOf s12).toNat)
  case atStart => exact ⟨0, w.heap.size, 0, Nat.zero_le _, rfl, rfl, Nat.le_refl _, row_nil w _ _, hA0⟩
  case round =>
    obtain ⟨i, g, cc, hi, rfl, rfl, hgB, hO, hb⟩ := hrel
    have hw3 : IntKind.i64.wrap ((i : Int) + 1) = (i : Int) + 1 := by rw [IntKind.wrap_i64]; omega
    by_cases hlt : i < L.length
    · have hlt1 : (i : Int) < L.length := by omega
      obtain ⟨a, rfl, kw⟩ := HR.out.1 i hlt
      have k0 := (hb.cell (block_lt_of_cell kw)).trans kw
      have c0 := (hb.cell (block_lt_of_cell HR.out.2)).trans HR.out.2
      clear kw
      have hy : L[i]? = some L[i] := List.getElem?_eq_getElem hlt
      have hrle : rle (L.take (i + 1)) = rleS (rle (L.take i)) L[i] := by rw [List.take_add_one, hy]; exact rle_snoc _ _
      generalize L[i] = y at k0 hy hrle
      obtain ⟨m, hm⟩ : ∃ m, m = (rle (L.take i)).length := ⟨_, rfl⟩
      rw [← hm] at hO ⊢
      have hmi : m ≤ i := by rw [hm]; exact rle_len L i
      have hcase : (∃ j z, i = j + 1 ∧ L[j]? = some z ∧ z = y) ∨ (i = 0 ∨ ∃ j z, i = j + 1 ∧ L[j]? = some z ∧ ¬ z = y) := by
        cases i with
        | zero => exact .inr (.inl rfl)
        | succ j =>
          have hj : L[j]? = some L[j] := List.getElem?_eq_getElem (by omega)
          by_cases h : L[j] = y
          · exact .inl ⟨j, _, rfl, hj, h⟩
          · exact .inr (.inr ⟨j, _, rfl, hj, h⟩)
      rcases hcase with ⟨j, z, hij, hz, hzy⟩ | hcase
      · obtain ⟨acc, v0, hacc⟩ := rle_last hz
        rw [← hij, hzy] at hacc
        obtain ⟨a', ha', kw⟩ := HR.out.1 j (by omega)
        injection ha' with ha'
        subst ha'
        have k1 := (hb.cell (block_lt_of_cell kw)).trans kw
        rw [show L[j] = y from (List.getElem?_eq_some_iff.1 hz).2.trans hzy] at k1
        clear kw
        have hv0 := rle_val (L := L) (i := i) ⟨y, v0⟩ (by rw [hacc]; simp)
        simp only at hv0
        obtain ⟨k, hk⟩ : ∃ k, acc.length = k := ⟨_, rfl⟩
        have hmk : m = k + 1 := by rw [hm, hacc]; simp [hk]
        obtain ⟨st1, st2, st3, st4⟩ := often_store w.heap.size wr g m cc k acc y v0 (v0 + 1) (by rw [hacc] at hO; exact hO) hk hmk
        have hi0 : decide (0 < (i : Int)) = true := decide_eq_true (by omega)
        have hw4 : IntKind.i64.wrap ((i : Int) - 1) = (j : Int) := by rw [IntKind.wrap_i64]; omega
        have hw5 : IntKind.i64.wrap ((m : Int) - 1) = (k : Int) := by rw [IntKind.wrap_i64]; omega
        have hkm : (k : Int) < m := by omega
        have hw6 : IntKind.i64.wrap (v0 + 1) = v0 + 1 := by rw [IntKind.wrap_i64]; omega
        have hj1 : (j : Int) < L.length := by omega
        have HD := Lib.hid (And.intro hO (And.intro st3 (And.intro st4 (And.intro hb (And.intro hrle (And.intro hacc (And.intro hm (And.intro hz (And.intro hij (And.intro hzy (And.intro hmk hk)))))))))))
        clear hO st3 st4 hb hrle hacc hm hz hy hij hzy hmk hk hv0
        go_upto_region 6 with fail
        go_region
        simp only [Exit.inBlock]
        refine then_normal ?_
        go_wp2_with fail
        go_roundw
        case rel =>
          obtain ⟨hO, st3, st4, hb, hrle, hacc, hm, hz, hij, hzy, hmk, hk⟩ := HD.out
          have h5 : rle (L.take (i + 1)) = acc ++ [⟨y, v0 + 1⟩] := by rw [hrle, hacc, rleS_same]
          have h6 : (rle (L.take (i + 1))).length = m := by rw [h5]; simp; omega
          refine ⟨i + 1, g, cc, by omega, rfl, by rw [h6], hgB, ?_, (hb.trans (st4.below (fun t ht => ht ▸ hgB) hb.size)).drew⟩
          rw [h6, h5]
          exact owns_old (below_drew _) st3
        case measure => simp only [RowKit.intOf]; omega
      · have hA1 : Below wr.heap.size wr (wr.alloc (.cells #[.int .i64 y, .int .i64 1] 42)) := (Below.refl _ _).alloc (Nat.le_refl _) _
        obtain ⟨v8, w8, g1, g2, g3, g4⟩ := app_arr2 w.heap.size 39 _ m (rle (L.take i)) (owns_old hA1 hO) (.slice (some ⟨wr.heap.size, 0, none⟩) 1 1) 1 [⟨y, 1⟩] (.inr ⟨⟨wr.heap.size, 0, none⟩, 1, rfl, rfl, fun t u ht => by
          have hB := Blk.new wr 42 #[.int .i64 y, .int .i64 1]
          rw [Addr.add_lit, Nat.zero_add, hB.cell]
          match t, ht with
          | 0, ht => exact ht
          | 1, ht => exact ht
          | t + 2, ht => simp [flat2, Pr2.cells] at ht⟩) (by omega) (by have := hb.size; have := hA1.size; omega)
        have hgb : Below w.heap.size wr w8 := (hA1.mono hb.size).trans ((Chg.grown g3).below (fun k hk => (hO.lt k hk).1) (by have := hb.size; have := hA1.size; omega))
        obtain ⟨⟨e0, e1⟩ | ⟨g8, c8, cur8, rfl, _⟩⟩ := And.intro g2.2 trivial
        · omega
        have hnew : rle (L.take (i + 1)) = rle (L.take i) ++ [⟨y, 1⟩] := by
          rw [hrle]
          rcases hcase with rfl | ⟨j, z, hij, hz, hzy⟩
          · rfl
          · obtain ⟨acc, v0, hacc⟩ := rle_last hz
            rw [← hij] at hacc
            rw [hacc]
            simp [rleS, hzy]
        have HD := Lib.hid (And.intro g2 (And.intro (hb.trans hgb) (And.intro hnew hm)))
        have hg8 : w.heap.size ≤ g8 := (g2.lt _ rfl).1
        have hguard : (¬ 0 < i ∧ ¬ 0 < (i : Int)) ∨ ((0 < i ∧ 0 < (i : Int)) ∧ ∃ z : Int, (i : Int) - 1 < L.length ∧ wr.cell? (a.add (i - 1)) = some (.int .i64 z) ∧ (z == y) = false) := by
          rcases hcase with rfl | ⟨j, z, hij, hz, hzy⟩
          · exact .inl ⟨by omega, by omega⟩
          · obtain ⟨a', ha', kw⟩ := HR.out.1 j (by omega)
            injection ha' with ha'
            subst ha'
            have k1 := (hb.cell (block_lt_of_cell kw)).trans kw
            rw [show L[j] = z from (List.getElem?_eq_some_iff.1 hz).2] at k1
            exact .inr ⟨⟨by omega, by omega⟩, z, by omega, by rw [show i - 1 = j by omega]; exact k1, by simpa using hzy⟩
        clear hO hb hA1 g2 g3 g4 hgb hnew hm hcase hrle hy
        rcases hguard with ⟨hi0, hi00⟩ | ⟨⟨hi0, hi00⟩, z, hj1, k1, hzy⟩
        · go_wp2_with (at_builtin; refine Lib.wpList_append_run _ rfl _ _ _ _ rfl _ _ rfl rfl _ _ g1 ?_)
          go_roundw
          case rel =>
            obtain ⟨g2, hbw, hnew, hm⟩ := HD.out
            have h6 : (rle (L.take (i + 1))).length = m + 1 := by rw [hnew]; simp [← hm]
            refine ⟨i + 1, g8, c8, by omega, rfl, by rw [h6], hg8, ?_, hbw⟩
            rw [h6, hnew]
            exact g2
          case measure => simp only [RowKit.intOf]; omega
        · go_wp2_with (at_builtin; refine Lib.wpList_append_run _ rfl _ _ _ _ rfl _ _ rfl rfl _ _ g1 ?_)
          go_roundw
          case rel =>
            obtain ⟨g2, hbw, hnew, hm⟩ := HD.out
            have h6 : (rle (L.take (i + 1))).length = m + 1 := by rw [hnew]; simp [← hm]
            refine ⟨i + 1, g8, c8, by omega, rfl, by rw [h6], hg8, ?_, hbw⟩
            rw [h6, hnew]
            exact g2
          case measure => simp only [RowKit.intOf]; omega
    · obtain rfl : i = L.length := by omega
      have hlt1 : ¬ (L.length : Int) < L.length := by omega
      have HD := Lib.hid (And.intro hO hb)
      clear hO hb
      go_wp2_with fail
      go_ret
      have h9 := HD.out.1
      rw [List.take_of_length_le (Nat.le_refl _)] at h9
      refine ⟨_, rfl, ?_, HD.out.2⟩
      simpa using h9
end Go.Proofs.Ytajklhlgakpgiaa
