/-
  A record of numbers and its model: what each tells, by contracts in the same terms.
-/
import Derived.Test.YtajklhlgakpgiaaDMade
namespace Go.Proofs.Ytajklhlgakpgiaa
open Go.RowKit Go.Lib

theorem expand_ne {x : Pr2} {l : List Pr2} (hp : Pos (x :: l)) : expand (x :: l) ≠ [] := by
  have := hp x (List.mem_cons_self ..)
  show List.replicate _ _ ++ expand l ≠ []
  intro h
  have h1 := congrArg List.length h
  rw [List.length_append, List.length_replicate] at h1
  simp at h1
  omega
theorem expand_last {l : List Pr2} (hp : Pos l) (hl : l ≠ []) : (expand l).getLast? = some (mostP l) := by
  induction l with
  | nil => exact absurd rfl hl
  | cons x l ih =>
    have hv := hp x (List.mem_cons_self ..)
    cases l with
    | nil =>
      show (List.replicate _ _ ++ []).getLast? = some x.key
      rw [List.append_nil, List.getLast?_replicate, if_neg (by omega)]
    | cons y l =>
      have ih := ih hp.tl (by simp)
      show (List.replicate _ _ ++ expand (y :: l)).getLast? = _
      rw [List.getLast?_append, ih]
      have : mostP (x :: y :: l) = mostP (y :: l) := by unfold mostP; rw [List.getLast?_cons_cons]
      rw [this]
      rfl
theorem expand_kb {l : List Pr2} (hK : KB l) : ∀ n ∈ expand l, 0 ≤ n ∧ n ≤ 1099511627776 := fun n hn => by
  obtain ⟨x, hx, rfl⟩ := expand_mem hn
  exact hK x hx
/-- A record and its model. -/
structure MT (w0 w : World) (r o : Nat) (l : List Pr2) (n : Nat) : Prop where
  md : MD w0 w r o l n (expand l)
  sort : SortP l
  pos : Pos l
  kb : KB l
  sum : sumV l = n
  len : l.length ≤ n
section
variable {w0 w w' : World} {r o n : Nat} {l : List Pr2}
theorem MT.below (H : MT w0 w r o l n) (hb : Below w.heap.size w w') : MT w0 w' r o l n := ⟨H.md.below hb, H.sort, H.pos, H.kb, H.sum, H.len⟩
theorem MT.elen (H : MT w0 w r o l n) : (expand l).length = n := by
  have h1 := expand_len H.pos
  rw [H.sum] at h1
  omega
theorem MT.many_c (H : MT w0 w r o l n) : Calls Try.prog 13 #[.pointer (some ⟨r, 0, none⟩)] w fun e w' => e = .returned (.int .i64 n) ∧ w = w' := by
  obtain ⟨S, _, h, _⟩ := H.md.ex
  exact _root_.Go.Proofs.Ytajklhlgakpgiaa.many_c S r l n w h
theorem MT.sum_c (H : MT w0 w r o l n) : Calls Try.prog 14 #[.pointer (some ⟨r, 0, none⟩)] w fun e w' => e = .returned (.int .i64 (sumFrom 0 l)) ∧ Below w.heap.size w w' := by
  obtain ⟨S, _, h, _⟩ := H.md.ex
  exact _root_.Go.Proofs.Ytajklhlgakpgiaa.sum_c S r l n w h H.kb
theorem MT.sumr_c (H : MT w0 w r o l n) : Calls Try.prog 10 #[.pointer (some ⟨o, 0, none⟩)] w fun e w' => e = .returned (.int .i64 (sumFrom 0 l)) ∧ w = w' := by
  obtain ⟨_, T, _, h, _⟩ := H.md.ex
  have := _root_.Go.Proofs.Ytajklhlgakpgiaa.sumr_c T o (expand l) w h (expand_kb H.kb)
  rw [sum_law H.kb H.pos 0 (Int.le_refl _) (by omega)] at this
  exact this
theorem MT.most_c (H : MT w0 w r o l n) : Calls Try.prog 15 #[.pointer (some ⟨r, 0, none⟩)] w fun e w' => e = .returned (.int .i64 (mostP l)) ∧ Below w.heap.size w w' := by
  obtain ⟨S, _, h, _⟩ := H.md.ex
  exact _root_.Go.Proofs.Ytajklhlgakpgiaa.most_c S r l n w h
theorem MT.above_c (H : MT w0 w r o l n) (hn : n ≤ 1000) (x : Int) : Calls Try.prog 16 #[.pointer (some ⟨r, 0, none⟩), .int .i64 x] w fun e w' => e = .returned (.int .i64 (aboveP x l)) ∧ Below w.heap.size w w' := by
  obtain ⟨S, _, h, _⟩ := H.md.ex
  exact _root_.Go.Proofs.Ytajklhlgakpgiaa.above_c S r l n x w h (by rw [H.sum]; omega)
theorem MT.abover_c (H : MT w0 w r o l n) (x : Int) : Calls Try.prog 11 #[.pointer (some ⟨o, 0, none⟩), .int .i64 x] w fun e w' => e = .returned (.int .i64 (aboveP x l)) ∧ w = w' := by
  obtain ⟨_, T, _, h, _⟩ := H.md.ex
  have := _root_.Go.Proofs.Ytajklhlgakpgiaa.abover_c T o (expand l) x w h
  rw [above_law H.pos] at this
  exact this
theorem MT.rows_c (H : MT w0 w r o l n) : Calls Try.prog 22 #[.pointer (some ⟨r, 0, none⟩)] w fun e w' => ∃ v', e = .returned v' ∧ w'.ownsRow w.heap.size 42 2 v' l.length (flat2 l) ∧ Below w.heap.size w w' := by
  obtain ⟨S, _, h, _⟩ := H.md.ex
  exact rowsR_c S r l n w h
theorem MT.rowsr_c (H : MT w0 w r o l n) : Calls Try.prog 23 #[.pointer (some ⟨o, 0, none⟩)] w fun e w' => ∃ v', e = .returned v' ∧ w'.ownsRow w.heap.size 42 2 v' l.length (flat2 l) ∧ Below w.heap.size w w' := by
  obtain ⟨_, T, _, h, _⟩ := H.md.ex
  have := _root_.Go.Proofs.Ytajklhlgakpgiaa.rowsr_c T o (expand l) w h
  rw [rows_law H.sort H.pos] at this
  exact this
theorem MT.at_c (H : MT w0 w r o l n) (q : Nat) (hq : q < 2 ^ 64) : Calls Try.prog 20 #[.pointer (some ⟨r, 0, none⟩), .float .f64 q] w fun e w' => e = .returned (.float .f64 (atF q l n)) ∧ Below w.heap.size w w' := by
  obtain ⟨S, _, h, _⟩ := H.md.ex
  exact _root_.Go.Proofs.Ytajklhlgakpgiaa.at_c S r l n q w h hq
theorem MT.atr_c (H : MT w0 w r o l n) (t : Nat) (ht : t ≤ 1023 * 2 ^ 52) (hn : 1 ≤ n) : Calls Try.prog 12 #[.pointer (some ⟨o, 0, none⟩), .float .f64 t] w fun e w' => w = w' ∧ ∃ y, e = .returned (.int .i64 y) ∧ atL (rankF t n) l = floatOfInt .f64 y := by
  obtain ⟨_, T, _, h, _⟩ := H.md.ex
  have hl := H.elen
  have := _root_.Go.Proofs.Ytajklhlgakpgiaa.atr_c T o t (expand l) w h ht (by omega)
  refine this.mono fun e w' ⟨h1, k, y, h2, h3, h4, h5, h6⟩ => ⟨h1, y, h2, ?_⟩
  obtain ⟨z, g1, g2⟩ := at_law H.pos k h4 h5
  rw [hl] at h3
  rw [← h3, g2]
  rw [h6] at g1
  rw [Option.some.inj g1]
theorem MT.mean_c (H : MT w0 w r o l n) (s : Nat) (hs : sumFrom 0 l = s) (hs2 : s < 2 ^ 53) (hn : 1 ≤ n) : Calls Try.prog 18 #[.pointer (some ⟨r, 0, none⟩)] w fun e w' => e = .returned (.float .f64 (meanF s n)) ∧ Below w.heap.size w w' := by
  obtain ⟨S, _, h, _⟩ := H.md.ex
  exact mean_pos S r l n s w h H.kb hs hs2 hn
theorem MT.share_c (H : MT w0 w r o l n) (x : Int) (s : Nat) (hs : aboveP x l = s) (hn1 : n ≤ 1000) (hn : 1 ≤ n) : Calls Try.prog 19 #[.pointer (some ⟨r, 0, none⟩), .int .i64 x] w fun e w' => e = .returned (.float .f64 (meanF s n)) ∧ Below w.heap.size w w' := by
  obtain ⟨S, _, h, _⟩ := H.md.ex
  have := aboveP_in (n := x) (l := l) fun y hy => by have := H.pos y hy; omega
  rw [H.sum] at this
  exact share_pos S r l n s x w h (by rw [H.sum]; omega) hs (by omega) hn
theorem MT.cells (H : MT w0 w r o l n) (hn : 1 ≤ n) : ∃ a c, w.cell? ⟨o, 0, none⟩ = some (.slice (some a) n c) ∧ w.cell? (a.add (n - 1)) = some (.int .i64 (mostP l)) := by
  obtain ⟨_, T, _, h, _⟩ := H.md.ex
  obtain ⟨v, h1, h2, _⟩ := h.ex
  have hl := H.elen
  rw [hl] at h2
  obtain ⟨p, c, rfl, _, _, _, hR⟩ := num_row h2
  obtain ⟨a, rfl, h3⟩ := hR (n - 1) (by omega)
  have h4 := expand_last H.pos (fun e => by rw [e] at hl; simp [expand] at hl; omega)
  rw [List.getLast?_eq_getElem?, hl, List.getElem?_eq_getElem (by omega)] at h4
  rw [Option.some.inj h4] at h3
  exact ⟨a, c, h1.cell 0, h3⟩
end
theorem made_t (p : Option Addr) (n c : Nat) (xs : List Int) (w : World) (hn : xs.length = n) (hX : NumsAt w p xs) (h100 : n ≤ 100) :
    Calls Try.prog 8 #[.slice p n c] w fun e w' => ∃ r o, e = .returned (.tuple #[.pointer (some ⟨r, 0, none⟩), .pointer (some ⟨o, 0, none⟩)]) ∧ MT w w' r o (noteL xs) n := by
  refine (made_c p n c xs w hn hX h100).mono fun e w' ⟨h1, h2⟩ => ⟨_, _, h1, ?_, noteL_sort xs, noteL_pos xs, (noteL_CN xs).kb, by rw [(noteL_CN xs).sum, hn], by have := noteL_len xs; omega⟩
  rw [← refL_expand]
  exact h2
end Go.Proofs.Ytajklhlgakpgiaa
