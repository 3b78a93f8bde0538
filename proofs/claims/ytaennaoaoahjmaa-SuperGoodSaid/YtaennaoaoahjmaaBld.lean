/-
  strings.Builder's two functions at this program: where they lie, and that they do what is said.
-/
import Derived.Test.YtaennaoaoahjmaaProg
import Derived.Ground.NamesProg
import Derived.Test.YtaennaoaoahjmaaLibB
namespace Go.Proofs
open Go.Shelf Go.RowKit
def Try.bldRen : Go.Shelf.Ren := ⟨fun | 166 => 16 | 240 => 34 | 276 => 40 | 169 => 20 | n => n, fun | 0 => 0 | 3 => 3 | 4 => 4 | 9 => 9 | 20 => 20 | 37 => 53 | 70 => 56 | 72 => 58 | 75 => 61 | 80 => 66 | 164 => 92 | 5 => 5 | 127 => 83 | n => n, fun | n => n⟩
theorem Try.bldLays166 : Go.Proofs.Lays.n166 Try.prog Try.bldRen := {
  mixed := by kernel_rfl
  f166 := Try.func16.trans (congrArg some (by kernel_rfl))
  f240 := Try.func34.trans (congrArg some (by kernel_rfl))
  f276 := Try.func40.trans (congrArg some (by kernel_rfl))
  t0 := Try.underlying0
  a0 := Try.isAgg0
  z0 := Try.sizeOf0
  v0 := Try.zeroValue0
  t3 := Try.underlying3
  a3 := Try.isAgg3
  z3 := Try.sizeOf3
  v3 := Try.zeroValue3
  t4 := Try.underlying4
  a4 := Try.isAgg4
  z4 := Try.sizeOf4
  v4 := Try.zeroValue4
  t9 := Try.underlying9
  a9 := Try.isAgg9
  z9 := Try.sizeOf9
  v9 := Try.zeroValue9
  t20 := Try.underlying20
  a20 := Try.isAgg20
  z20 := Try.sizeOf20
  v20 := Try.zeroValue20
  t37 := Try.underlying53
  a37 := Try.isAgg53
  z37 := Try.sizeOf53
  v37 := Try.zeroValue53
  t70 := Try.underlying56
  a70 := Try.isAgg56
  z70 := Try.sizeOf56
  v70 := Try.zeroValue56
  t72 := Try.underlying58
  a72 := Try.isAgg58
  z72 := Try.sizeOf58
  v72 := Try.zeroValue58
  t75 := Try.underlying61
  a75 := Try.isAgg61
  z75 := Try.sizeOf61
  v75 := Try.zeroValue61
  t164 := Try.underlying92
  a164 := Try.isAgg92
  z164 := Try.sizeOf92
  v164 := Try.zeroValue92 }
theorem Try.bldLays169 : Go.Proofs.Lays.n169 Try.prog Try.bldRen := {
  mixed := by kernel_rfl
  f169 := Try.func20.trans (congrArg some (by kernel_rfl))
  t0 := Try.underlying0
  a0 := Try.isAgg0
  z0 := Try.sizeOf0
  v0 := Try.zeroValue0
  t3 := Try.underlying3
  a3 := Try.isAgg3
  z3 := Try.sizeOf3
  v3 := Try.zeroValue3
  t9 := Try.underlying9
  a9 := Try.isAgg9
  z9 := Try.sizeOf9
  v9 := Try.zeroValue9
  t37 := Try.underlying53
  a37 := Try.isAgg53
  z37 := Try.sizeOf53
  v37 := Try.zeroValue53
  t70 := Try.underlying56
  a70 := Try.isAgg56
  z70 := Try.sizeOf56
  v70 := Try.zeroValue56
  t72 := Try.underlying58
  a72 := Try.isAgg58
  z72 := Try.sizeOf58
  v72 := Try.zeroValue58
  t127 := Try.underlying83
  a127 := Try.isAgg83
  z127 := Try.sizeOf83
  v127 := Try.zeroValue83 }
theorem Try.bldExtra : Builder.Extra Try.prog Try.bldRen := {
  sizeBuilder := by kernel_rfl
  liesBuilder := by kernel_rfl
  t5 := Try.underlying5
  a5 := Try.isAgg5
  z5 := Try.sizeOf5
  v5 := Try.zeroValue5
  infoByte := by kernel_rfl
  cellsByte := by kernel_rfl
  sizeByte := by kernel_rfl
  neB5 := by decide }
theorem Try.bldOk : Go.Det.BldOk Try.prog :=
  Go.Det.bldOk_some (i := 16) (j := 20) (T := 58) (E := 5) (by kernel_rfl) (bld_write Try.bldLays166 Try.bldExtra) (bld_tell Try.bldLays169 Try.bldExtra)
#print axioms Try.bldOk
end Go.Proofs
