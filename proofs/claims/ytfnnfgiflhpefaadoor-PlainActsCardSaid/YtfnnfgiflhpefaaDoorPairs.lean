/-
  Package plain: pairs in a row, and the search for a key.
-/
import Derived.Test.YtfnnfgiflhpefaaDoorNum
import Derived.Test.YtfnnfgiflhpefaaDoorBut
import Derived.Lib.Hide
namespace Go.Proofs.YtfnnfgiflhpefaaDoor
open Go.RowKit

structure Pr2 where
  key : Int
  val : Int
def Pr2.cells (x : Pr2) : List Value := [.int .u64 x.key, .int .u64 x.val]
def flat2 (l : List Pr2) : List Value := l.flatMap Pr2.cells
/-- A slice of pairs, as the walk meets it. -/
def RowAt (w : World) (p : Option Addr) (l : List Pr2) : Prop :=
  ∀ i (h : i < l.length), ∃ a, p = some a ∧ w.cell? (a.add (i * 2)) = some (.int .u64 (l[i]).key) ∧ w.cell? ⟨(a.add (i * 2)).block, (a.add (i * 2)).off + 1, none⟩ = some (.int .u64 (l[i]).val)
theorem RowAt.below {w w' : World} {p : Option Addr} {l : List Pr2} (H : RowAt w p l) (hb : Below w.heap.size w w') : RowAt w' p l := by
  intro i hi
  obtain ⟨a, hp, h0, h1⟩ := H i hi
  have hl := block_lt_of_cell h0
  exact ⟨a, hp, (hb.cell hl).trans h0, (hb.cell (p := ⟨(a.add (i * 2)).block, _, none⟩) hl).trans h1⟩

def cmpU (a b : Int) : Int := if a < b then -1 else if b < a then 1 else 0
theorem cmpNaN_c (x : Int) (w : World) : Calls Tryd.prog 42 #[.int .u64 x] w fun e w' => e = .returned (.bool false) ∧ w = w' := by
  go_enter Tryd.func42, Tryd.ntmps42
  go_wp2
  go_ret
  exact ⟨rfl, rfl⟩
theorem compare_c (x y : Int) (w : World) : Calls Tryd.prog 40 #[.int .u64 x, .int .u64 y] w fun e w' => e = .returned (.int .i64 (cmpU x y)) ∧ w = w' := by
  have H := Lib.hid cmpNaN_c
  unfold cmpU
  rcases Int.lt_trichotomy x y with h | h | h
  · rw [if_pos h]
    go_enter Tryd.func40, Tryd.ntmps40
    go_wp2_with (go_at_call 42; refine (H.out _ _).mono ?_; rintro e w1 ⟨rfl, rfl⟩)
    go_ret
    exact ⟨rfl, rfl⟩
  · subst h
    rw [if_neg (by omega), if_neg (by omega)]
    go_enter Tryd.func40, Tryd.ntmps40
    go_wp2_with (go_at_call 42; refine (H.out _ _).mono ?_; rintro e w1 ⟨rfl, rfl⟩)
    go_ret
    exact ⟨rfl, rfl⟩
  · rw [if_neg (by omega), if_pos h]
    have h2 : ¬ x < y := by omega
    go_enter Tryd.func40, Tryd.ntmps40
    go_wp2_with (go_at_call 42; refine (H.out _ _).mono ?_; rintro e w1 ⟨rfl, rfl⟩)
    go_ret
    exact ⟨rfl, rfl⟩
theorem byKey_c (k v key : Int) (w : World) : Calls Tryd.prog 35 #[.agg #[.int .u64 k, .int .u64 v], .int .u64 key] w fun e w' => e = .returned (.int .i64 (cmpU k key)) ∧ Below w.heap.size w w' := by
  have H := Lib.hid (compare_c k key)
  go_enter Tryd.func35, Tryd.ntmps35
  go_wp2_with (go_at_call 40; refine (H.out _).mono ?_; rintro e w1 ⟨rfl, rfl⟩)
  go_ret
  exact ⟨rfl, (Below.refl _ _).alloc (Nat.le_refl _) _⟩

/-- How many keys stand ahead of a key, and whether it is there. -/
def Sorted2 (l : List Pr2) : Prop := ∀ i j (hi : i < l.length) (hj : j < l.length), i < j → (l[i]).key < (l[j]).key
def LoAt (l : List Pr2) (key : Int) (i : Nat) : Prop := ∀ t (h : t < l.length), t < i → (l[t]).key < key
def HiAt (l : List Pr2) (key : Int) (j : Nat) : Prop := ∀ t (h : t < l.length), j ≤ t → key ≤ (l[t]).key
/-- Does a key stand at a place? -/
def hitAt (l : List Pr2) (key : Int) (k : Nat) : Bool := match l[k]? with | some x => decide (x.key = key) | none => false

theorem cmpU_neg (a b : Int) : decide (cmpU a b < 0) = (if a < b then true else false) := by
  unfold cmpU
  split
  · rfl
  · split <;> rfl
theorem cmpU_zero (a b : Int) : (cmpU a b == 0) = decide (a = b) := by
  unfold cmpU
  by_cases h : a < b
  · rw [if_pos h]; simp; omega
  · rw [if_neg h]
    by_cases h2 : b < a
    · rw [if_pos h2]; simp; omega
    · rw [if_neg h2]; simp; omega
theorem key_before {l : List Pr2} {key : Int} (hs : Sorted2 l) {t m : Nat} (ht : t < l.length) (hm : m < l.length) (h : t < m) (hk : (l[m]).key < key) : (l[t]).key < key := by
  have := hs t m ht hm h
  omega
theorem hit_of {l : List Pr2} {key : Int} {k : Nat} (h : k < l.length) : hitAt l key k = decide ((l[k]).key = key) := by
  unfold hitAt
  rw [List.getElem?_eq_getElem h]
theorem hit_end {l : List Pr2} {key : Int} {k : Nat} (h : l.length ≤ k) : hitAt l key k = false := by
  unfold hitAt
  rw [List.getElem?_eq_none h]

set_option maxHeartbeats 1000000 in
theorem search_c (p : Option Addr) (n cap : Nat) (l : List Pr2) (key : Int) (w : World) (hn : l.length = n) (hs : Sorted2 l) (hR : RowAt w p l) (hb : n ≤ 1000000) :
    Calls Tryd.prog 34 #[.slice p n cap, .int .u64 key, .func (.func 35) #[] #[]] w fun e w' => ∃ k : Nat, k ≤ n ∧ LoAt l key k ∧ HiAt l key k ∧
      e = .returned (.tuple #[.int .i64 (k : Int), .bool (hitAt l key k)]) ∧ Below w.heap.size w w' := by
  have HR := Lib.hid (And.intro hs hR)
  have HB := Lib.hid (fun k v W => byKey_c k v key W)
  clear hs hR
  go_enter Tryd.func34, Tryd.ntmps34
  go_wp2_with fail
  go_loopw [9, 10] (fun s9 s10 wr => ∃ i j : Nat, i ≤ j ∧ j ≤ n ∧ s9 = .int .i64 i ∧ s10 = .int .i64 j ∧ LoAt l key i ∧ HiAt l key j ∧ Below w.heap.size w wr) (fun s9 s10 _ => (intOf s10 - intOf s9).toNat)
  case atStart => exact ⟨0, n, by omega, by omega, rfl, rfl, fun t h ht => by omega, fun t h ht => by omega, Below.refl _ _⟩
  case round =>
    obtain ⟨i, j, hij, hjn, rfl, rfl, hlo, hhi, hbr⟩ := hrel
    have HS := Lib.hid (And.intro hlo (And.intro hhi hbr))
    clear hlo hhi hbr
    by_cases hlt : i < j
    · have hm : (i + j) / 2 < l.length := by omega
      obtain ⟨a, rfl, c0, c1⟩ := (HR.out.2.below HS.out.2.2) ((i + j) / 2) hm
      have hij2 : (i : Int) < (j : Int) := by omega
      have hjb : (j : Int) ≤ 1000000 := by omega
      go_upto_region 5 with fail
      rw [show ((i : Int) + (j : Int)) / 2 = (((i + j) / 2 : Nat) : Int) by omega]
      have hm1 : i ≤ (i + j) / 2 := by omega
      have hm2 : (i + j) / 2 < j := by omega
      generalize (i + j) / 2 = m at *
      have hmn : (m : Int) < (n : Int) := by omega
      have hme : (l[m]'hm).key < key ∨ ¬ (l[m]'hm).key < key := by omega
      obtain ⟨xk, hxk⟩ : ∃ xk, xk = (l[m]'hm).key := ⟨_, rfl⟩
      obtain ⟨xv, hxv⟩ : ∃ xv, xv = (l[m]'hm).val := ⟨_, rfl⟩
      rw [← hxk] at c0 hme
      rw [← hxv] at c1
      have HX := Lib.hid (And.intro hxk hm)
      have hc := cmpU_neg xk key
      clear hxk hxv
      rcases hme with h | h
      · rw [if_pos h] at hc
        have HH := Lib.hid h
        clear h
        go_wp2_with (go_at_call 35; refine (HB.out _ _ _).mono ?_; rintro e w5 ⟨rfl, hb5⟩)
        go_roundw
        case rel =>
          refine ⟨m + 1, j, by omega, by omega, by go_num, rfl, fun t ht htm => ?_, HS.out.2.1, HS.out.2.2.trans (hb5.mono HS.out.2.2.size)⟩
          rcases Nat.lt_or_ge t m with c | c
          · exact key_before HR.out.1 ht HX.out.2 c (by rw [← HX.out.1]; exact HH.out)
          · obtain rfl : t = m := by omega
            rw [← HX.out.1]; exact HH.out
        case measure => simp [intOf]; omega
      · rw [if_neg h] at hc
        have HH := Lib.hid h
        clear h
        go_wp2_with (go_at_call 35; refine (HB.out _ _ _).mono ?_; rintro e w5 ⟨rfl, hb5⟩)
        go_roundw
        case rel =>
          refine ⟨i, m, by omega, by omega, rfl, rfl, HS.out.1, fun t ht htm => ?_, HS.out.2.2.trans (hb5.mono HS.out.2.2.size)⟩
          have h5 := HH.out
          rw [HX.out.1] at h5
          rcases Nat.lt_or_eq_of_le htm with c | c
          · have := HR.out.1 m t HX.out.2 ht c
            omega
          · subst c; omega
        case measure => simp [intOf]; omega
    · obtain rfl : i = j := by omega
      by_cases hin : i < n
      · have hm : i < l.length := by omega
        obtain ⟨a, rfl, c0, c1⟩ := (HR.out.2.below HS.out.2.2) i hm
        obtain ⟨xk, hxk⟩ : ∃ xk, xk = (l[i]'hm).key := ⟨_, rfl⟩
        obtain ⟨xv, hxv⟩ : ∃ xv, xv = (l[i]'hm).val := ⟨_, rfl⟩
        rw [← hxk] at c0
        rw [← hxv] at c1
        have HX := Lib.hid (And.intro hxk hm)
        have hc := cmpU_zero xk key
        have hin2 : (i : Int) < (n : Int) := by omega
        clear hxk hxv
        go_wp2_with (go_at_call 35; refine (HB.out _ _ _).mono ?_; rintro e w5 ⟨rfl, hb5⟩)
        go_ret2
        refine ⟨i, by omega, HS.out.1, HS.out.2.1, ?_, HS.out.2.2.trans (hb5.mono HS.out.2.2.size)⟩
        rw [hit_of HX.out.2, ← HX.out.1]
        rfl
      · obtain rfl : i = n := by omega
        go_wp2
        go_ret2
        refine ⟨i, by omega, HS.out.1, HS.out.2.1, ?_, HS.out.2.2⟩
        rw [hit_end (by omega)]
        rfl
end Go.Proofs.YtfnnfgiflhpefaaDoor
