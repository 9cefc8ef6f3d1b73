/-
  strings.Repeat by the kit's contract, laid at this program. (Printed by mkrepeat.py.)
-/
import Derived.Shelf.Strings.Repeat
import Derived.Test.YtnakfnkmdiekhaaDoorProg
import Derived.KernelRfl
namespace Go.Proofs.YtnakfnkmdiekhaaDoor
open Go.Shelf Go.RowKit

def repRen : Go.Shelf.Ren := ⟨fun x => match x with | 105 => 31 | 212 => 38 | 99 => 39 | 165 => 40 | 166 => 41 | 170 => 42 | 169 => 43 | 263 => 51 | 264 => 52 | 206 => 53 | 240 => 54 | 241 => 55 | 276 => 61 | 277 => 62 | n => n, fun x => match x with | 9 => 9 | 3 => 3 | 4 => 4 | 20 => 20 | 0 => 0 | 46 => 46 | 109 => 55 | 5 => 5 | 72 => 61 | 76 => 63 | 51 => 77 | 146 => 78 | 53 => 22 | 148 => 80 | 70 => 58 | 37 => 59 | 75 => 35 | 127 => 82 | 164 => 98 | 80 => 66 | n => n, fun x => x⟩
theorem repLays : Lays.n105 Tryd.prog repRen where
  mixed := by kernel_rfl
  f99 := Tryd.func39.trans (congrArg some (by kernel_rfl))
  f105 := Tryd.func31.trans (congrArg some (by kernel_rfl))
  f165 := Tryd.func40.trans (congrArg some (by kernel_rfl))
  f166 := Tryd.func41.trans (congrArg some (by kernel_rfl))
  f169 := Tryd.func43.trans (congrArg some (by kernel_rfl))
  f170 := Tryd.func42.trans (congrArg some (by kernel_rfl))
  f206 := Tryd.func53.trans (congrArg some (by kernel_rfl))
  f212 := Tryd.func38.trans (congrArg some (by kernel_rfl))
  f240 := Tryd.func54.trans (congrArg some (by kernel_rfl))
  f241 := Tryd.func55.trans (congrArg some (by kernel_rfl))
  f263 := Tryd.func51.trans (congrArg some (by kernel_rfl))
  f264 := Tryd.func52.trans (congrArg some (by kernel_rfl))
  f276 := Tryd.func61.trans (congrArg some (by kernel_rfl))
  f277 := Tryd.func62.trans (congrArg some (by kernel_rfl))
  t0 := Tryd.underlying0
  a0 := Tryd.isAgg0
  z0 := Tryd.sizeOf0
  v0 := Tryd.zeroValue0
  t3 := Tryd.underlying3
  a3 := Tryd.isAgg3
  z3 := Tryd.sizeOf3
  v3 := Tryd.zeroValue3
  t4 := Tryd.underlying4
  a4 := Tryd.isAgg4
  z4 := Tryd.sizeOf4
  v4 := Tryd.zeroValue4
  t5 := Tryd.underlying5
  a5 := Tryd.isAgg5
  z5 := Tryd.sizeOf5
  v5 := Tryd.zeroValue5
  t9 := Tryd.underlying9
  a9 := Tryd.isAgg9
  z9 := Tryd.sizeOf9
  v9 := Tryd.zeroValue9
  t20 := Tryd.underlying20
  a20 := Tryd.isAgg20
  z20 := Tryd.sizeOf20
  v20 := Tryd.zeroValue20
  t37 := Tryd.underlying59
  a37 := Tryd.isAgg59
  z37 := Tryd.sizeOf59
  v37 := Tryd.zeroValue59
  t46 := Tryd.underlying46
  a46 := Tryd.isAgg46
  z46 := Tryd.sizeOf46
  v46 := Tryd.zeroValue46
  t51 := Tryd.underlying77
  a51 := Tryd.isAgg77
  z51 := Tryd.sizeOf77
  v51 := Tryd.zeroValue77
  t53 := Tryd.underlying22
  a53 := Tryd.isAgg22
  z53 := Tryd.sizeOf22
  v53 := Tryd.zeroValue22
  t70 := Tryd.underlying58
  a70 := Tryd.isAgg58
  z70 := Tryd.sizeOf58
  v70 := Tryd.zeroValue58
  t72 := Tryd.underlying61
  a72 := Tryd.isAgg61
  z72 := Tryd.sizeOf61
  v72 := Tryd.zeroValue61
  t75 := Tryd.underlying35
  a75 := Tryd.isAgg35
  z75 := Tryd.sizeOf35
  v75 := Tryd.zeroValue35
  t76 := Tryd.underlying63
  a76 := Tryd.isAgg63
  z76 := Tryd.sizeOf63
  v76 := Tryd.zeroValue63
  t109 := Tryd.underlying55
  a109 := Tryd.isAgg55
  z109 := Tryd.sizeOf55
  v109 := Tryd.zeroValue55
  t127 := Tryd.underlying82
  a127 := Tryd.isAgg82
  z127 := Tryd.sizeOf82
  v127 := Tryd.zeroValue82
  t146 := Tryd.underlying78
  a146 := Tryd.isAgg78
  z146 := Tryd.sizeOf78
  v146 := Tryd.zeroValue78
  t148 := Tryd.underlying80
  a148 := Tryd.isAgg80
  z148 := Tryd.sizeOf80
  v148 := Tryd.zeroValue80
  t164 := Tryd.underlying98
  a164 := Tryd.isAgg98
  z164 := Tryd.sizeOf98
  v164 := Tryd.zeroValue98
theorem repExtra : Builder.Extra Tryd.prog repRen where
  sizeBuilder := by kernel_rfl
  liesBuilder := by kernel_rfl
  t5 := repLays.t5
  a5 := repLays.a5
  z5 := repLays.z5
  v5 := repLays.v5
  infoByte := by kernel_rfl
  cellsByte := by kernel_rfl
  sizeByte := by kernel_rfl
  neB5 := by decide
theorem repeat_c (s : ByteArray) (c : Nat) (w : World) (hc : c ≤ 1000) (hlen : s.size ≤ 1000) :
    Calls Tryd.prog 31 #[.string s, .int .i64 c] w fun e w' => e = .returned (.string ⟨(Lib.repeatL s.data.toList c).toArray⟩) ∧ Below w.heap.size w w' :=
  Any.strings_Repeat repLays repExtra s c w (by omega) (Nat.le_trans (Nat.mul_le_mul hlen hc) (by decide))
end Go.Proofs.YtnakfnkmdiekhaaDoor
