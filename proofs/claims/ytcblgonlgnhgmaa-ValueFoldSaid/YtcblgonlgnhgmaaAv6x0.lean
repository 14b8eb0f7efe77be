/- Chapter 6: the library's functions that are called, laid: the shelf's contracts speak of them. By the shelf's own plain mode. -/
import Derived.Shelf.Small.Strs
import Derived.Shelf.Strings.Search3
import Derived.Shelf.Strings.FieldsFuncAny
import Derived.Test.YtcblgonlgnhgmaaProg
set_option linter.unusedVariables false
set_option linter.unusedSimpArgs false
namespace Go.Proofs
open Go.Shelf
def Try.laysFF_ren : Go.Shelf.Ren := ⟨fun | 229 => 34 | n => n, fun | 9 => 9 | 40 => 51 | 31 => 41 | 152 => 54 | 3 => 3 | 0 => 0 | 4 => 4 | 21 => 21 | 154 => 56 | n => n, fun | n => n⟩
theorem Try.laysFF : Go.Proofs.Lays.n229 Try.prog Try.laysFF_ren := {
  mixed := by kernel_rfl
  f229 := Try.func34.trans (congrArg some (by kernel_rfl))
  t0 := Try.underlying0
  a0 := Try.isAgg0
  z0 := Try.sizeOf0
  v0 := Try.zeroValue0
  t3 := Try.underlying3
  a3 := Try.isAgg3
  z3 := Try.sizeOf3
  v3 := Try.zeroValue3
  t4 := Try.underlying4
  a4 := Try.isAgg4
  z4 := Try.sizeOf4
  v4 := Try.zeroValue4
  t9 := Try.underlying9
  a9 := Try.isAgg9
  z9 := Try.sizeOf9
  v9 := Try.zeroValue9
  t21 := Try.underlying21
  a21 := Try.isAgg21
  z21 := Try.sizeOf21
  v21 := Try.zeroValue21
  t31 := Try.underlying41
  a31 := Try.isAgg41
  z31 := Try.sizeOf41
  v31 := Try.zeroValue41
  t40 := Try.underlying51
  a40 := Try.isAgg51
  z40 := Try.sizeOf51
  v40 := Try.zeroValue51
  t152 := Try.underlying54
  a152 := Try.isAgg54
  z152 := Try.sizeOf54
  v152 := Try.zeroValue54
  t154 := Try.underlying56
  a154 := Try.isAgg56
  z154 := Try.sizeOf56
  v154 := Try.zeroValue56 }
def Try.laysCo_ren : Go.Shelf.Ren := ⟨fun | 144 => 25 | 143 => 40 | 219 => 44 | 217 => 43 | 225 => 46 | 224 => 47 | 267 => 48 | 266 => 45 | 314 => 49 | n => n, fun | 9 => 9 | 4 => 4 | 3 => 3 | 5 => 5 | 46 => 57 | 146 => 59 | 51 => 58 | n => n, fun | 1 => 0 | n => n⟩
theorem Try.laysCo : Go.Proofs.Lays.n144 Try.prog Try.laysCo_ren := {
  mixed := by kernel_rfl
  f143 := Try.func40.trans (congrArg some (by kernel_rfl))
  f144 := Try.func25.trans (congrArg some (by kernel_rfl))
  f217 := Try.func43.trans (congrArg some (by kernel_rfl))
  f219 := Try.func44.trans (congrArg some (by kernel_rfl))
  f224 := Try.func47.trans (congrArg some (by kernel_rfl))
  f225 := Try.func46.trans (congrArg some (by kernel_rfl))
  f266 := Try.func45.trans (congrArg some (by kernel_rfl))
  f267 := Try.func48.trans (congrArg some (by kernel_rfl))
  f314 := Try.func49.trans (congrArg some (by kernel_rfl))
  t3 := Try.underlying3
  a3 := Try.isAgg3
  z3 := Try.sizeOf3
  v3 := Try.zeroValue3
  t4 := Try.underlying4
  a4 := Try.isAgg4
  z4 := Try.sizeOf4
  v4 := Try.zeroValue4
  t5 := Try.underlying5
  a5 := Try.isAgg5
  z5 := Try.sizeOf5
  v5 := Try.zeroValue5
  t9 := Try.underlying9
  a9 := Try.isAgg9
  z9 := Try.sizeOf9
  v9 := Try.zeroValue9
  t46 := Try.underlying57
  a46 := Try.isAgg57
  z46 := Try.sizeOf57
  v46 := Try.zeroValue57
  t51 := Try.underlying58
  a51 := Try.isAgg58
  z51 := Try.sizeOf58
  v51 := Try.zeroValue58
  t146 := Try.underlying59
  a146 := Try.isAgg59
  z146 := Try.sizeOf59
  v146 := Try.zeroValue59
  g1 := by kernel_rfl }
def Try.laysIB_ren : Go.Shelf.Ren := ⟨fun | 137 => 36 | 217 => 43 | 266 => 45 | n => n, fun | 9 => 9 | 5 => 5 | 3 => 3 | n => n, fun | n => n⟩
theorem Try.laysIB : Go.Proofs.Lays.n137 Try.prog Try.laysIB_ren := {
  mixed := by kernel_rfl
  f137 := Try.func36.trans (congrArg some (by kernel_rfl))
  f217 := Try.func43.trans (congrArg some (by kernel_rfl))
  f266 := Try.func45.trans (congrArg some (by kernel_rfl))
  t3 := Try.underlying3
  a3 := Try.isAgg3
  z3 := Try.sizeOf3
  v3 := Try.zeroValue3
  t5 := Try.underlying5
  a5 := Try.isAgg5
  z5 := Try.sizeOf5
  v5 := Try.zeroValue5
  t9 := Try.underlying9
  a9 := Try.isAgg9
  z9 := Try.sizeOf9
  v9 := Try.zeroValue9 }
end Go.Proofs
