/-
  The sixteen errors of package api: what the row's list says of them in a world, and that it stays so; errors.Is at them; the number of an error.
-/
import Derived.Test.YtacdbgoffepaaaaDoorRows
import Derived.Test.YtacdbgoffepaaaaDoorKit
import Derived.LaidEql
import Derived.Stop.Asserts
import Derived.Stop.LaidTwo
import Derived.RowKitTokens
namespace Go.Proofs.YtacdbgoffepaaaaDoor
open Go.RowKit Go.ChangeShapes

/-! ### sentinels of a list, whatever the program -/
def sent (nm : String) (x : String × List UInt8) : String × DataW Unit := (x.1, .iface nm (.ptr (.agg [.lit (.string x.2)])))

theorem sents_of {P : Program} {W : World} {nm : String} {ti tp te ts : TypeId} {ms : Array (String × TypeId)} {f : Field}
    (hi : P.underlying ti = some (.interface ms)) (hrow : ∀ u, P.typeName? 3 u = some nm → u = tp)
    (hp : P.underlying tp = some (.pointer te)) (he : P.underlying te = some (.struct #[f])) (hft : f.type = ts) (hfo : f.offset = 0) (hs : P.underlying ts = some .string) (hc : P.cellsOf te = 1) (hcs : P.cellsOf ts = 1) (L : List (String × List UInt8)) :
    ∀ (gs : List Nat) (ps : List MemPlace), (∀ (i : Nat) (x : String × List UInt8), L[i]? = some x → ∃ g, gs[i]? = some g ∧ P.globalNamed x.1 = some g ∧ (P.globals[g]?).map (·.type) = some ti) →
      DataW.LaidVars P W (L.map (sent nm)) ps → ps.Nodup →
      (∀ b off, MemPlace.cell b off ∈ ps → (∃ c t, W.heap[b]? = some (.cells c t (0, 0))) ∧ ∀ u v, W.cell? ⟨b, off, none⟩ = some (.iface u v) → Value.okWide P W .any 0 u v) →
      ∃ ea : List Addr, ea.length = L.length ∧ ea.Nodup ∧ (∀ a ∈ ea, MemPlace.cell a.block a.off ∈ ps ∧ a.spot = none ∧ ∃ c t, W.heap[a.block]? = some (.cells c t (0, 0))) ∧
        ∀ (i : Nat) (a : Addr), ea[i]? = some a → ∃ g, gs[i]? = some g ∧ W.cell? ⟨g, 0, none⟩ = some (.iface tp (.pointer (some a))) := by
  induction L with
  | nil => intro gs ps _ _ _ _; exact ⟨[], rfl, List.nodup_nil, by simp, by simp⟩
  | cons x L ih =>
    intro gs ps hg hv hnd hrows
    obtain ⟨g, t, cs, fuel, p, q, hgn, hgt, hvar, htr, hq, rfl⟩ := hv
    obtain ⟨g', hg0, hg1, hg2⟩ := hg 0 x rfl
    obtain rfl : g = g' := Option.some.inj (hgn.symm.trans hg1)
    obtain rfl : t = ti := Option.some.inj (hgt.symm.trans hg2)
    obtain ⟨l⟩ := cs
    have ok0 : ∀ u v, l = [.iface u v] → Value.okWide P W .any 0 u v := fun u v e => by
      subst e
      exact (hrows g 0 (by simp [MemPlace.row])).2 u v (by simpa using World.var?_cell hgn hvar 0)
    obtain ⟨a0, s0, rfl, hc0, _, _, rfl⟩ := errorString_of_trod hi hrow hp he hft hfo hs hc hcs htr ok0
    have hspot : a0.spot = none := by
      cases h : a0.spot with
      | none => rfl
      | some s =>
        unfold World.cell? at hc0
        rw [h] at hc0
        simp at hc0
        split at hc0 <;> cases hc0
    obtain ⟨gs', rfl⟩ : ∃ gs', gs = g :: gs' := by
      cases gs with
      | nil => simp at hg0
      | cons y ys => simp at hg0; subst hg0; exact ⟨ys, rfl⟩
    obtain ⟨ea, hlen, hn, hmem, hcell⟩ := ih gs' q (fun i x hx => by simpa using hg (i + 1) x (by simpa using hx)) hq (List.Nodup.sublist (List.sublist_append_right _ _) hnd)
      (fun b off hm => hrows b off (List.mem_append_right _ hm))
    have ha0 : MemPlace.cell a0.block a0.off ∉ q := by
      intro hm
      have := List.nodup_append.1 hnd
      exact this.2.2 (MemPlace.cell a0.block a0.off) (by simp [MemPlace.row]) _ hm rfl
    refine ⟨a0 :: ea, by simp [hlen], List.nodup_cons.2 ⟨fun hm => ha0 (hmem a0 hm).1, hn⟩, ?_, ?_⟩
    · intro a ha
      rcases List.mem_cons.1 ha with rfl | ha
      · exact ⟨by simp [MemPlace.row], hspot, (hrows a.block a.off (by simp [MemPlace.row])).1⟩
      · exact ⟨List.mem_append_right _ (hmem a ha).1, (hmem a ha).2⟩
    · intro i a hia
      cases i with
      | zero =>
        simp at hia; subst hia
        exact ⟨g, by simp, by simpa using World.var?_cell hgn hvar 0⟩
      | succ i => simpa using hcell i a (by simpa using hia)

section
open Go.Extern.Stop Go.Stop Go.Extern
/-! ### errors.Is at them (after the worked text SentryIs) -/
theorem isTypeOf (v : Value) (w : World) : (Extern.ReflectliteType.typeOf #[.iface 148 v]).run Tryd.prog w = .ok (.iface 119 (.agg #[.pointer (some ⟨16, 148, none⟩)])) w := by kernel_rfl
noncomputable def cmpExt : Array Value → Sem Value := (Extern.find Tryd.f107).getD (fun _ => .halt .blocked)
theorem cmpExt_find : Extern.find Tryd.f107 = some cmpExt := by kernel_rfl
theorem isComparable (w : World) : (cmpExt #[.agg #[.pointer (some ⟨16, 148, none⟩)]]).run Tryd.prog w = .ok (.bool true) w := by kernel_rfl
theorem isMethodComparable (v : Value) (w : World) : (Go.method (184 + 2) 119 v "Comparable").run Tryd.prog w = .ok (107, v) w := by kernel_rfl
theorem isComp : (Tryd.prog.info? 148).map (·.comparable) = some true := by kernel_rfl
theorem isSize : (Tryd.prog.info? 172).map (·.size) = some 1 := by kernel_rfl
theorem noIsE (v : Value) (xT : TypeId) (w : World) : (Instr.typeAssert (.iface 148 v) xT 121 true).run Tryd.prog w = .ok (.tuple #[.nilIface, .bool false]) w := run_typeAssert_lacksB Tryd.underlying121 (by kernel_rfl) (by kernel_rfl) v xT w
theorem noUnwrapE (v : Value) (xT : TypeId) (w : World) : (Instr.typeAssert (.iface 148 v) xT 124 true).run Tryd.prog w = .ok (.tuple #[.nilIface, .bool false]) w := run_typeAssert_lacksB Tryd.underlying124 (by kernel_rfl) (by kernel_rfl) v xT w
theorem noUnwrapsE (v : Value) (xT : TypeId) (w : World) : (Instr.typeAssert (.iface 148 v) xT 126 true).run Tryd.prog w = .ok (.tuple #[.nilIface, .bool false]) w := run_typeAssert_lacksB Tryd.underlying126 (by kernel_rfl) (by kernel_rfl) v xT w

theorem is_same (a : Addr) (w : World) :
    Calls Tryd.prog 54 #[.iface 148 (.pointer (some a)), .iface 148 (.pointer (some a))] w fun e w' => e = .returned (.bool true) ∧ w = w' := by
  obtain ⟨i, hi, hcmp⟩ := Option.map_eq_some_iff.1 isComp
  obtain ⟨j, hj, hjs⟩ := Option.map_eq_some_iff.1 isSize
  have h8 := @run_callFunc_extern Tryd.prog 62 _ Extern.ReflectliteType.typeOf Tryd.func62 (by kernel_rfl) (by kernel_rfl) (by kernel_rfl) (by kernel_rfl)
  have h32 := @run_callFunc_extern Tryd.prog 107 _ cmpExt Tryd.func107 (by kernel_rfl) (by kernel_rfl) (by kernel_rfl) cmpExt_find
  have tT := isTypeOf
  have cT := isComparable
  have mR := isMethodComparable
  have heq := run_eql_iface_ptr_same (P := Tryd.prog) w a Tryd.underlying27 Tryd.underlying148 hi hcmp hj
  go_enter Tryd.func54, Tryd.ntmps54
  go_wp2
  refine wp_loop_rounds 1 ?_
  rw [rounds_succ]
  go_wp2
  go_ret
  exact ⟨rfl, rfl⟩

theorem is_other (a b : Addr) (ca cb : Array Value) (ta tb : TypeId) (w : World) (hne : a ≠ b) (ha : w.heap[a.block]? = some (.cells ca ta (0, 0))) (hb : w.heap[b.block]? = some (.cells cb tb (0, 0))) :
    Calls Tryd.prog 54 #[.iface 148 (.pointer (some a)), .iface 148 (.pointer (some b))] w fun e w' => e = .returned (.bool false) ∧ w = w' := by
  obtain ⟨i, hi, hcmp⟩ := Option.map_eq_some_iff.1 isComp
  obtain ⟨j, hj, hjs⟩ := Option.map_eq_some_iff.1 isSize
  have h8 := @run_callFunc_extern Tryd.prog 62 _ Extern.ReflectliteType.typeOf Tryd.func62 (by kernel_rfl) (by kernel_rfl) (by kernel_rfl) (by kernel_rfl)
  have h32 := @run_callFunc_extern Tryd.prog 107 _ cmpExt Tryd.func107 (by kernel_rfl) (by kernel_rfl) (by kernel_rfl) cmpExt_find
  have tT := isTypeOf
  have cT := isComparable
  have mR := isMethodComparable
  have nE := noIsE
  have uE := noUnwrapE
  have vE := noUnwrapsE
  have heq := run_eql_iface_ptr_other (P := Tryd.prog) w Tryd.underlying27 Tryd.underlying148 hi hcmp hj (by rw [hjs]; decide) hne ha hb
  go_enter Tryd.func54, Tryd.ntmps54
  go_wp2
  refine wp_loop_rounds 1 ?_
  rw [rounds_succ]
  go_wp2
  go_ret
  exact ⟨rfl, rfl⟩
end

end Go.Proofs.YtacdbgoffepaaaaDoor
