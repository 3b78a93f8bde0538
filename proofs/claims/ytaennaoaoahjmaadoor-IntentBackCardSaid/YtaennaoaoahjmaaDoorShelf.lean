/-
  What strings.Repeat gives in this program, out of the library's contract of it: a byte repeated.
-/
import Derived.Test.YtaennaoaoahjmaaDoorProg
import Derived.Shelf.Strings.Repeat
import Derived.Ground.NamesProg
import Derived.Lib.Agree
import Derived.Test.YtaennaoaoahjmaaDoorDetW
namespace Go.Proofs
open Go.Shelf Go.RowKit
def Tryd.laysRepeat_ren : Go.Shelf.Ren := ⟨fun | 105 => 79 | 212 => 83 | 99 => 84 | 165 => 85 | 166 => 49 | 170 => 86 | 169 => 50 | 263 => 88 | 264 => 89 | 206 => 90 | 240 => 63 | 241 => 91 | 276 => 76 | 277 => 92 | n => n, fun | 9 => 9 | 3 => 3 | 4 => 4 | 20 => 20 | 0 => 0 | 46 => 115 | 109 => 150 | 5 => 5 | 72 => 106 | 76 => 109 | 51 => 114 | 146 => 155 | 53 => 53 | 148 => 157 | 70 => 104 | 37 => 46 | 75 => 108 | 127 => 126 | 164 => 142 | 80 => 51 | n => n, fun | n => n⟩
theorem Tryd.laysRepeat : Go.Proofs.Lays.n105 Tryd.prog Tryd.laysRepeat_ren := {
  mixed := by kernel_rfl
  f99 := Tryd.func84.trans (congrArg some (by kernel_rfl))
  f105 := Tryd.func79.trans (congrArg some (by kernel_rfl))
  f165 := Tryd.func85.trans (congrArg some (by kernel_rfl))
  f166 := Tryd.func49.trans (congrArg some (by kernel_rfl))
  f169 := Tryd.func50.trans (congrArg some (by kernel_rfl))
  f170 := Tryd.func86.trans (congrArg some (by kernel_rfl))
  f206 := Tryd.func90.trans (congrArg some (by kernel_rfl))
  f212 := Tryd.func83.trans (congrArg some (by kernel_rfl))
  f240 := Tryd.func63.trans (congrArg some (by kernel_rfl))
  f241 := Tryd.func91.trans (congrArg some (by kernel_rfl))
  f263 := Tryd.func88.trans (congrArg some (by kernel_rfl))
  f264 := Tryd.func89.trans (congrArg some (by kernel_rfl))
  f276 := Tryd.func76.trans (congrArg some (by kernel_rfl))
  f277 := Tryd.func92.trans (congrArg some (by kernel_rfl))
  t0 := Tryd.underlying0
  a0 := Tryd.isAgg0
  z0 := Tryd.sizeOf0
  v0 := Tryd.zeroValue0
  t3 := Tryd.underlying3
  a3 := Tryd.isAgg3
  z3 := Tryd.sizeOf3
  v3 := Tryd.zeroValue3
  t4 := Tryd.underlying4
  a4 := Tryd.isAgg4
  z4 := Tryd.sizeOf4
  v4 := Tryd.zeroValue4
  t5 := Tryd.underlying5
  a5 := Tryd.isAgg5
  z5 := Tryd.sizeOf5
  v5 := Tryd.zeroValue5
  t9 := Tryd.underlying9
  a9 := Tryd.isAgg9
  z9 := Tryd.sizeOf9
  v9 := Tryd.zeroValue9
  t20 := Tryd.underlying20
  a20 := Tryd.isAgg20
  z20 := Tryd.sizeOf20
  v20 := Tryd.zeroValue20
  t37 := Tryd.underlying46
  a37 := Tryd.isAgg46
  z37 := Tryd.sizeOf46
  v37 := Tryd.zeroValue46
  t46 := Tryd.underlying115
  a46 := Tryd.isAgg115
  z46 := Tryd.sizeOf115
  v46 := Tryd.zeroValue115
  t51 := Tryd.underlying114
  a51 := Tryd.isAgg114
  z51 := Tryd.sizeOf114
  v51 := Tryd.zeroValue114
  t53 := Tryd.underlying53
  a53 := Tryd.isAgg53
  z53 := Tryd.sizeOf53
  v53 := Tryd.zeroValue53
  t70 := Tryd.underlying104
  a70 := Tryd.isAgg104
  z70 := Tryd.sizeOf104
  v70 := Tryd.zeroValue104
  t72 := Tryd.underlying106
  a72 := Tryd.isAgg106
  z72 := Tryd.sizeOf106
  v72 := Tryd.zeroValue106
  t75 := Tryd.underlying108
  a75 := Tryd.isAgg108
  z75 := Tryd.sizeOf108
  v75 := Tryd.zeroValue108
  t76 := Tryd.underlying109
  a76 := Tryd.isAgg109
  z76 := Tryd.sizeOf109
  v76 := Tryd.zeroValue109
  t109 := Tryd.underlying150
  a109 := Tryd.isAgg150
  z109 := Tryd.sizeOf150
  v109 := Tryd.zeroValue150
  t127 := Tryd.underlying126
  a127 := Tryd.isAgg126
  z127 := Tryd.sizeOf126
  v127 := Tryd.zeroValue126
  t146 := Tryd.underlying155
  a146 := Tryd.isAgg155
  z146 := Tryd.sizeOf155
  v146 := Tryd.zeroValue155
  t148 := Tryd.underlying157
  a148 := Tryd.isAgg157
  z148 := Tryd.sizeOf157
  v148 := Tryd.zeroValue157
  t164 := Tryd.underlying142
  a164 := Tryd.isAgg142
  z164 := Tryd.sizeOf142
  v164 := Tryd.zeroValue142 }

theorem Tryd.extraRepeat : Builder.Extra Tryd.prog Tryd.laysRepeat_ren := {
  sizeBuilder := by kernel_rfl
  liesBuilder := by kernel_rfl
  t5 := Tryd.laysRepeat.t5
  a5 := Tryd.laysRepeat.a5
  z5 := Tryd.laysRepeat.z5
  v5 := Tryd.laysRepeat.v5
  infoByte := by kernel_rfl
  cellsByte := by kernel_rfl
  sizeByte := by kernel_rfl
  neB5 := by decide }

theorem Tryd.fRepeat : Tryd.laysRepeat_ren.f 105 = 79 := by kernel_rfl

theorem Tryd.rep : Go.Det.RepGives Tryd.prog 79 := {
  fn := ⟨Tryd.f79, Tryd.func79, by kernel_rfl, by kernel_rfl⟩
  gives := fun s b c w hs hc => by
    have hsz : s.size = 1 := by
      show s.data.size = 1
      rw [← Array.length_toList, hs]; rfl
    have h := Any.strings_Repeat Tryd.laysRepeat Tryd.extraRepeat s c w (by omega) (by rw [hsz]; omega)
    rw [Tryd.fRepeat] at h
    refine h.mono fun e w' he => ⟨⟨_, he.1, ?_⟩, he.2⟩
    have := Lib.repeatL_replicate b 1 c
    rw [Nat.mul_one] at this
    simpa [hs] using this }

#print axioms Tryd.rep
end Go.Proofs
