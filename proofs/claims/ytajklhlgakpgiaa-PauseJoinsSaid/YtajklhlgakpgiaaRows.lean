/-
  No cell of these rows narrows 'for every input' (looked for: loops, veiled, ifaces, maps, wideKeys, modest, calm, conditions, laid).
  DERIVED. THE GIVEN ROWS OF THIS SEAT. 4 by the template 'for every input the law returns true; each argument reads behind the call as it read before'; 0 by the template 'total and deterministic' (their statements: YtajklhlgakpgiaaTotals.lean).
  GIVEN WITH THE SEED: the statements are not yours to turn. If you find one false, say at which input.
  Laid BY PROGRAM, IN A SANDBOX (cutbox-rows.mjs): the forced cells as the released guide's own fill.sh prints them over the translation 369cd632e8d68fa3… (all of the seat's roots in one cut). By AI agents, Wed Nov 11 2026. No macro, syntax, notation, axiom, sorry.
-/
import Derived.Test.YtajklhlgakpgiaaChecked
import GoSem.Claim
import GoSem.ClaimJoined
import GoSem.ClaimMapViews
import Derived.JoinedTies
import Derived.KernelRfl
namespace Go.Proofs.Ytajklhlgakpgiaa
/- THE CELL 'sum', in the pinned program and in every row, IS THE sha256 OF THE DUMP (.gsa) THAT YtajklhlgakpgiaaProg.lean LOADS. Nothing in Lean hashes anything: it is a label: what it is worth is what the hold of that sum in a sandbox is worth. -/
noncomputable def Try.pinned : Pinned := { name := "ytajklhlgakpgiaa", sum := "369cd632e8d68fa31b5991a52c87a547ffad6d6864c7f004a442753197e97f71", checked := Try.checked }
namespace Rows
def none {H : Type} : Left H := { results := [], args := [] }

/-- 'amblerlaw34.PauseTells': WHATEVER THE INPUT: true; the input reads as it did. -/
def pauseTellsSpec : ChangeSpec := { name := "pauseTells", fn := fun _ => fun
  | [d1, d2, d3] => { results := [.lit (.bool true)], args := [d1, d2, d3] }
  | _ => none }
def pauseTellsRow : OpenClaim := { program := "ytajklhlgakpgiaa", sum := "369cd632e8d68fa31b5991a52c87a547ffad6d6864c7f004a442753197e97f71", func := "ambler/amblerlaw34.PauseTells", spec := "pauseTells", inPlace := ["slices.overlaps[ambler/pause.row]", "math.Float64frombits", "math.archCeil", "math.archFloor", "math.Float64bits", "math.archTrunc"], unfollowed := true, recurses := true, apart := false }
def PauseTellsSaid : Prop := pauseTellsRow.holds Try.pinned (OpenSpec.ofChange pauseTellsSpec)

/-- ITS FALSE NEIGHBOUR: 'it returns false'. Refute it at one input. -/
def pauseTellsWrong : ChangeSpec := { name := "pauseTells", fn := fun _ => fun
  | [d1, d2, d3] => { results := [.lit (.bool false)], args := [d1, d2, d3] }
  | _ => none }
def PauseTellsWrongFalsely : Prop := pauseTellsRow.holds Try.pinned (OpenSpec.ofChange pauseTellsWrong)

/-- 'amblerlaw34.PauseRises': WHATEVER THE INPUT: true; the input reads as it did. -/
def pauseRisesSpec : ChangeSpec := { name := "pauseRises", fn := fun _ => fun
  | [d1, d2, d3] => { results := [.lit (.bool true)], args := [d1, d2, d3] }
  | _ => none }
def pauseRisesRow : OpenClaim := { program := "ytajklhlgakpgiaa", sum := "369cd632e8d68fa31b5991a52c87a547ffad6d6864c7f004a442753197e97f71", func := "ambler/amblerlaw34.PauseRises", spec := "pauseRises", inPlace := ["slices.overlaps[ambler/pause.row]", "math.Float64frombits", "math.archCeil", "math.archFloor", "math.Float64bits", "math.archTrunc"], unfollowed := true, recurses := true, apart := false }
def PauseRisesSaid : Prop := pauseRisesRow.holds Try.pinned (OpenSpec.ofChange pauseRisesSpec)

/-- ITS FALSE NEIGHBOUR: 'it returns false'. Refute it at one input. -/
def pauseRisesWrong : ChangeSpec := { name := "pauseRises", fn := fun _ => fun
  | [d1, d2, d3] => { results := [.lit (.bool false)], args := [d1, d2, d3] }
  | _ => none }
def PauseRisesWrongFalsely : Prop := pauseRisesRow.holds Try.pinned (OpenSpec.ofChange pauseRisesWrong)

/-- 'amblerlaw34.PauseOrder': WHATEVER THE INPUT: true; the input reads as it did. -/
def pauseOrderSpec : ChangeSpec := { name := "pauseOrder", fn := fun _ => fun
  | [d1, d2, d3] => { results := [.lit (.bool true)], args := [d1, d2, d3] }
  | _ => none }
def pauseOrderRow : OpenClaim := { program := "ytajklhlgakpgiaa", sum := "369cd632e8d68fa31b5991a52c87a547ffad6d6864c7f004a442753197e97f71", func := "ambler/amblerlaw34.PauseOrder", spec := "pauseOrder", inPlace := ["slices.overlaps[ambler/pause.row]", "math.Float64frombits", "math.archCeil", "math.archFloor", "math.Float64bits", "math.archTrunc"], unfollowed := true, recurses := true, apart := false }
def PauseOrderSaid : Prop := pauseOrderRow.holds Try.pinned (OpenSpec.ofChange pauseOrderSpec)

/-- ITS FALSE NEIGHBOUR: 'it returns false'. Refute it at one input. -/
def pauseOrderWrong : ChangeSpec := { name := "pauseOrder", fn := fun _ => fun
  | [d1, d2, d3] => { results := [.lit (.bool false)], args := [d1, d2, d3] }
  | _ => none }
def PauseOrderWrongFalsely : Prop := pauseOrderRow.holds Try.pinned (OpenSpec.ofChange pauseOrderWrong)

/-- 'amblerlaw34.PauseJoins': WHATEVER THE INPUT: true; the input reads as it did. -/
def pauseJoinsSpec : ChangeSpec := { name := "pauseJoins", fn := fun _ => fun
  | [d1, d2, d3] => { results := [.lit (.bool true)], args := [d1, d2, d3] }
  | _ => none }
def pauseJoinsRow : OpenClaim := { program := "ytajklhlgakpgiaa", sum := "369cd632e8d68fa31b5991a52c87a547ffad6d6864c7f004a442753197e97f71", func := "ambler/amblerlaw34.PauseJoins", spec := "pauseJoins", inPlace := ["slices.overlaps[ambler/pause.row]", "math.Float64frombits", "math.archCeil", "math.archFloor", "math.Float64bits", "math.archTrunc"], unfollowed := true, recurses := true, apart := false }
def PauseJoinsSaid : Prop := pauseJoinsRow.holds Try.pinned (OpenSpec.ofChange pauseJoinsSpec)

/-- ITS FALSE NEIGHBOUR: 'it returns false'. Refute it at one input. -/
def pauseJoinsWrong : ChangeSpec := { name := "pauseJoins", fn := fun _ => fun
  | [d1, d2, d3] => { results := [.lit (.bool false)], args := [d1, d2, d3] }
  | _ => none }
def PauseJoinsWrongFalsely : Prop := pauseJoinsRow.holds Try.pinned (OpenSpec.ofChange pauseJoinsWrong)

/- THE SECOND FORM. 'bulk': how many values and letters a reading holds, each counted each time it is reached (what is shared counts as often as it is met; a slice's spare places count too). A statement '..UptoSaid' is the law's where the arguments, and the package variables that the reading takes, are together of bulk at most 1048576: NARROWER than '..Said'. Prove '..Said' where nothing that the law and all that it calls make is longer than what came in: it says more and counts as full. Else prove '..UptoSaid'. A law counts once. -/
mutual
def uptoBulk {H : Type} : DataW H → Nat
  | .lit (.string bytes) => bytes.length + 1
  | .lit _ => 1
  | .nil => 1
  | .ptr d => uptoBulk d + 1
  | .slice elems spare => uptoBulkAll elems + uptoBulkAll spare + 1
  | .agg parts => uptoBulkAll parts + 1
  | .iface _ d => uptoBulk d + 1
  | .map entries => uptoBulkEntries entries + 1
  | .held _ => 1
def uptoBulkAll {H : Type} : List (DataW H) → Nat
  | [] => 0
  | d :: r => uptoBulk d + uptoBulkAll r
def uptoBulkEntries {H : Type} : List (Lit × DataW H) → Nat
  | [] => 0
  | x :: r => uptoBulkEntry x + uptoBulkEntries r
def uptoBulkEntry {H : Type} : Lit × DataW H → Nat
  | (.string bytes, d) => bytes.length + uptoBulk d + 1
  | (_, d) => uptoBulk d + 1
 end
def uptoSmall : (H : Type) → List (DataW H) → Bool := fun _ ds => decide (uptoBulkAll ds ≤ 1048576)
def OpenSpec.upto (s : _root_.Go.ChangeSpec) : _root_.Go.OpenSpec := { _root_.Go.OpenSpec.ofChange s with cond := some uptoSmall }

/-- 'amblerlaw34.PauseTells', WHERE WHAT IT READS IS OF BULK AT MOST 1048576: true; the input reads as it did. -/
def pauseTellsUptoRow : OpenClaim := { program := "ytajklhlgakpgiaa", sum := "369cd632e8d68fa31b5991a52c87a547ffad6d6864c7f004a442753197e97f71", func := "ambler/amblerlaw34.PauseTells", spec := "pauseTells", inPlace := ["slices.overlaps[ambler/pause.row]", "math.Float64frombits", "math.archCeil", "math.archFloor", "math.Float64bits", "math.archTrunc"], unfollowed := true, recurses := true, apart := false, narrowed := true }
def PauseTellsUptoSaid : Prop := pauseTellsUptoRow.holds Try.pinned (OpenSpec.upto pauseTellsSpec)

/-- 'amblerlaw34.PauseRises', WHERE WHAT IT READS IS OF BULK AT MOST 1048576: true; the input reads as it did. -/
def pauseRisesUptoRow : OpenClaim := { program := "ytajklhlgakpgiaa", sum := "369cd632e8d68fa31b5991a52c87a547ffad6d6864c7f004a442753197e97f71", func := "ambler/amblerlaw34.PauseRises", spec := "pauseRises", inPlace := ["slices.overlaps[ambler/pause.row]", "math.Float64frombits", "math.archCeil", "math.archFloor", "math.Float64bits", "math.archTrunc"], unfollowed := true, recurses := true, apart := false, narrowed := true }
def PauseRisesUptoSaid : Prop := pauseRisesUptoRow.holds Try.pinned (OpenSpec.upto pauseRisesSpec)

/-- 'amblerlaw34.PauseOrder', WHERE WHAT IT READS IS OF BULK AT MOST 1048576: true; the input reads as it did. -/
def pauseOrderUptoRow : OpenClaim := { program := "ytajklhlgakpgiaa", sum := "369cd632e8d68fa31b5991a52c87a547ffad6d6864c7f004a442753197e97f71", func := "ambler/amblerlaw34.PauseOrder", spec := "pauseOrder", inPlace := ["slices.overlaps[ambler/pause.row]", "math.Float64frombits", "math.archCeil", "math.archFloor", "math.Float64bits", "math.archTrunc"], unfollowed := true, recurses := true, apart := false, narrowed := true }
def PauseOrderUptoSaid : Prop := pauseOrderUptoRow.holds Try.pinned (OpenSpec.upto pauseOrderSpec)

/-- 'amblerlaw34.PauseJoins', WHERE WHAT IT READS IS OF BULK AT MOST 1048576: true; the input reads as it did. -/
def pauseJoinsUptoRow : OpenClaim := { program := "ytajklhlgakpgiaa", sum := "369cd632e8d68fa31b5991a52c87a547ffad6d6864c7f004a442753197e97f71", func := "ambler/amblerlaw34.PauseJoins", spec := "pauseJoins", inPlace := ["slices.overlaps[ambler/pause.row]", "math.Float64frombits", "math.archCeil", "math.archFloor", "math.Float64bits", "math.archTrunc"], unfollowed := true, recurses := true, apart := false, narrowed := true }
def PauseJoinsUptoSaid : Prop := pauseJoinsUptoRow.holds Try.pinned (OpenSpec.upto pauseJoinsSpec)

end Rows
end Go.Proofs.Ytajklhlgakpgiaa
