/-
  The record's law: a record's bytes: the program's two loops, through a strings.Builder.
-/
import Derived.Test.YtaennaoaoahjmaaDoorE
import Derived.Test.YtaennaoaoahjmaaDoorLibK
set_option maxRecDepth 100000
set_option linter.unusedSimpArgs false
set_option linter.unusedVariables false
namespace Go.Proofs.YtaennaoaoahjmaaDoor
open Go.Det

/-- A number as eight bytes. -/
abbrev b8 (n : Int) : List UInt8 := K.be8 (BitVec.ofInt 64 n)
/-- A text, its length ahead. -/
def et (s : List UInt8) : List UInt8 := K.be8 (BitVec.ofNat 64 s.length) ++ s

theorem num_ev (k : Nat) (M : Mem) (n : BitVec 64) : callFn SP (k + 2) 38 [u64 n] M = some (.str (K.be8 n), [], M) :=
  K.num_ev (SP := SP) (n20 := 38) (n38 := 52) rfl rfl k M n
theorem text_ev (k : Nat) (M : Mem) (s : List UInt8) (hs : s.length < 2 ^ 48) : callFn SP (k + 3) 39 [.str s] M = some (.str (et s), [], M) :=
  K.text_ev (SP := SP) (n20 := 38) (n22 := 39) (n38 := 52) rfl rfl rfl k M s hs

def nums (l : List Int) : List UInt8 := (l.map b8).flatten
def mT (m : Mb) : List UInt8 := b8 m.st ++ et m.top ++ et m.log
def mTs (l : List Mb) : List UInt8 := (l.map mT).flatten

theorem nums_len (l : List Int) : (nums l).length = 8 * l.length := by
  induction l with
  | nil => rfl
  | cons x l ih => simp only [nums, List.map_cons, List.flatten_cons, List.length_append, List.length_cons] at ih ⊢; rw [ih, K.be8_len]; omega

end Go.Proofs.YtaennaoaoahjmaaDoor
