/-
  What strings.Repeat gives in this program, out of the library's contract of it: a byte repeated.
-/
import Derived.Test.YtpaagjjgmlmngaaProg
import Derived.Shelf.Strings.Repeat
import Derived.Ground.NamesProg
import Derived.Lib.Agree
import Derived.Test.YtpaagjjgmlmngaaDetW
namespace Go.Proofs
open Go.Shelf Go.RowKit
def Try.laysRepeat_ren : Go.Shelf.Ren := ⟨fun | 105 => 57 | 212 => 63 | 99 => 64 | 165 => 65 | 166 => 66 | 170 => 67 | 169 => 68 | 263 => 71 | 264 => 72 | 206 => 73 | 240 => 74 | 241 => 75 | 276 => 77 | 277 => 78 | n => n, fun | 9 => 9 | 3 => 3 | 4 => 4 | 20 => 20 | 0 => 0 | 46 => 37 | 109 => 94 | 5 => 5 | 72 => 98 | 76 => 102 | 51 => 63 | 146 => 112 | 53 => 52 | 148 => 114 | 70 => 96 | 37 => 27 | 75 => 101 | 127 => 116 | 164 => 117 | 80 => 105 | n => n, fun | n => n⟩
theorem Try.laysRepeat : Go.Proofs.Lays.n105 Try.prog Try.laysRepeat_ren := {
  mixed := by kernel_rfl
  f99 := Try.func64.trans (congrArg some (by kernel_rfl))
  f105 := Try.func57.trans (congrArg some (by kernel_rfl))
  f165 := Try.func65.trans (congrArg some (by kernel_rfl))
  f166 := Try.func66.trans (congrArg some (by kernel_rfl))
  f169 := Try.func68.trans (congrArg some (by kernel_rfl))
  f170 := Try.func67.trans (congrArg some (by kernel_rfl))
  f206 := Try.func73.trans (congrArg some (by kernel_rfl))
  f212 := Try.func63.trans (congrArg some (by kernel_rfl))
  f240 := Try.func74.trans (congrArg some (by kernel_rfl))
  f241 := Try.func75.trans (congrArg some (by kernel_rfl))
  f263 := Try.func71.trans (congrArg some (by kernel_rfl))
  f264 := Try.func72.trans (congrArg some (by kernel_rfl))
  f276 := Try.func77.trans (congrArg some (by kernel_rfl))
  f277 := Try.func78.trans (congrArg some (by kernel_rfl))
  t0 := Try.underlying0
  a0 := Try.isAgg0
  z0 := Try.sizeOf0
  v0 := Try.zeroValue0
  t3 := Try.underlying3
  a3 := Try.isAgg3
  z3 := Try.sizeOf3
  v3 := Try.zeroValue3
  t4 := Try.underlying4
  a4 := Try.isAgg4
  z4 := Try.sizeOf4
  v4 := Try.zeroValue4
  t5 := Try.underlying5
  a5 := Try.isAgg5
  z5 := Try.sizeOf5
  v5 := Try.zeroValue5
  t9 := Try.underlying9
  a9 := Try.isAgg9
  z9 := Try.sizeOf9
  v9 := Try.zeroValue9
  t20 := Try.underlying20
  a20 := Try.isAgg20
  z20 := Try.sizeOf20
  v20 := Try.zeroValue20
  t37 := Try.underlying27
  a37 := Try.isAgg27
  z37 := Try.sizeOf27
  v37 := Try.zeroValue27
  t46 := Try.underlying37
  a46 := Try.isAgg37
  z46 := Try.sizeOf37
  v46 := Try.zeroValue37
  t51 := Try.underlying63
  a51 := Try.isAgg63
  z51 := Try.sizeOf63
  v51 := Try.zeroValue63
  t53 := Try.underlying52
  a53 := Try.isAgg52
  z53 := Try.sizeOf52
  v53 := Try.zeroValue52
  t70 := Try.underlying96
  a70 := Try.isAgg96
  z70 := Try.sizeOf96
  v70 := Try.zeroValue96
  t72 := Try.underlying98
  a72 := Try.isAgg98
  z72 := Try.sizeOf98
  v72 := Try.zeroValue98
  t75 := Try.underlying101
  a75 := Try.isAgg101
  z75 := Try.sizeOf101
  v75 := Try.zeroValue101
  t76 := Try.underlying102
  a76 := Try.isAgg102
  z76 := Try.sizeOf102
  v76 := Try.zeroValue102
  t109 := Try.underlying94
  a109 := Try.isAgg94
  z109 := Try.sizeOf94
  v109 := Try.zeroValue94
  t127 := Try.underlying116
  a127 := Try.isAgg116
  z127 := Try.sizeOf116
  v127 := Try.zeroValue116
  t146 := Try.underlying112
  a146 := Try.isAgg112
  z146 := Try.sizeOf112
  v146 := Try.zeroValue112
  t148 := Try.underlying114
  a148 := Try.isAgg114
  z148 := Try.sizeOf114
  v148 := Try.zeroValue114
  t164 := Try.underlying117
  a164 := Try.isAgg117
  z164 := Try.sizeOf117
  v164 := Try.zeroValue117 }

theorem Try.extraRepeat : Builder.Extra Try.prog Try.laysRepeat_ren := {
  sizeBuilder := by kernel_rfl
  liesBuilder := by kernel_rfl
  t5 := Try.laysRepeat.t5
  a5 := Try.laysRepeat.a5
  z5 := Try.laysRepeat.z5
  v5 := Try.laysRepeat.v5
  infoByte := by kernel_rfl
  cellsByte := by kernel_rfl
  sizeByte := by kernel_rfl
  neB5 := by decide }

theorem Try.fRepeat : Try.laysRepeat_ren.f 105 = 57 := by kernel_rfl

theorem Try.rep : Go.Det.RepGives Try.prog 57 := {
  fn := ⟨Try.f57, Try.func57, by kernel_rfl, by kernel_rfl⟩
  gives := fun s b c w hs hc => by
    have hsz : s.size = 1 := by
      show s.data.size = 1
      rw [← Array.length_toList, hs]; rfl
    have h := Any.strings_Repeat Try.laysRepeat Try.extraRepeat s c w (by omega) (by rw [hsz]; omega)
    rw [Try.fRepeat] at h
    refine h.mono fun e w' he => ⟨⟨_, he.1, ?_⟩, he.2⟩
    have := Lib.repeatL_replicate b 1 c
    rw [Nat.mul_one] at this
    simpa [hs] using this }

#print axioms Try.rep
end Go.Proofs
