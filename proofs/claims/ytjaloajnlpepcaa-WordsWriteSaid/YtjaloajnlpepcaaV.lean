/-
  The words of a text: words.Little, words.Big.
-/
import Derived.Test.YtjaloajnlpepcaaW
namespace Go.Proofs.Ytjaloajnlpepcaa
open Go.Det
set_option maxRecDepth 100000
set_option linter.unusedSimpArgs false
set_option linter.unusedVariables false

def w8 (b : UInt8) : BitVec 32 := b.toBitVec.setWidth 32
theorem w8_lt (b : UInt8) : (w8 b).toNat < 256 := by
  have := b.toNat_lt
  rw [show (w8 b).toNat = b.toNat from by unfold w8; rw [BitVec.toNat_setWidth, UInt8.toNat_toBitVec, Nat.mod_eq_of_lt (by omega)]]
  omega
theorem w8_nat (b : UInt8) : (w8 b).toNat = b.toNat := by
  have := b.toNat_lt
  unfold w8
  rw [BitVec.toNat_setWidth, UInt8.toNat_toBitVec, Nat.mod_eq_of_lt (by omega)]

/-- Four bytes as a word, the lowest first. -/
def wd (a b c d : UInt8) : BitVec 32 := w8 a ||| w8 b <<< 8 ||| w8 c <<< 16 ||| w8 d <<< 24

theorem or_add (x y : BitVec 32) (k : Nat) (h : x.toNat < 2 ^ k) (h2 : y.toNat * 2 ^ k < 2 ^ 32) : (x ||| y <<< k).toNat = x.toNat + y.toNat * 2 ^ k := by
  rw [BitVec.toNat_or, BitVec.toNat_shiftLeft, Nat.shiftLeft_eq, Nat.mod_eq_of_lt h2, Nat.or_comm, ← Nat.shiftLeft_eq, ← Nat.shiftLeft_add_eq_or_of_lt h, Nat.shiftLeft_eq, Nat.add_comm]

theorem wd_nat (a b c d : UInt8) : (wd a b c d).toNat = a.toNat + b.toNat * 256 + c.toNat * 65536 + d.toNat * 16777216 := by
  have ha := a.toNat_lt
  have hb := b.toNat_lt
  have hc := c.toNat_lt
  have hd := d.toNat_lt
  have e1 := or_add (w8 a) (w8 b) 8 (by rw [w8_nat]; omega) (by rw [w8_nat]; omega)
  have e2 := or_add (w8 a ||| w8 b <<< 8) (w8 c) 16 (by rw [e1, w8_nat, w8_nat]; omega) (by rw [w8_nat]; omega)
  have e3 := or_add (w8 a ||| w8 b <<< 8 ||| w8 c <<< 16) (w8 d) 24 (by rw [e2, e1, w8_nat, w8_nat, w8_nat]; omega) (by rw [w8_nat]; omega)
  unfold wd
  rw [e3, e2, e1, w8_nat, w8_nat, w8_nat, w8_nat]

theorem or4 (a b c d : BitVec 32) : a ||| b ||| c ||| d = d ||| c ||| b ||| a := by ac_rfl
theorem wd_rev (a b c d : UInt8) : w8 a <<< 24 ||| w8 b <<< 16 ||| w8 c <<< 8 ||| w8 d = wd d c b a := or4 _ _ _ _

theorem little_word (k : Nat) (M : Mem) (a b c d : BitVec 32) : callFn SP (k + 1) 26 [u32 a, u32 b, u32 c, u32 d] M = some (u32 (a ||| b <<< 8 ||| c <<< 16 ||| d <<< 24), [], M) := by
  rw [call_fn (by rfl) (by simp)]
  simp

theorem big_word (k : Nat) (M : Mem) (a b c d : BitVec 32) : callFn SP (k + 1) 27 [u32 a, u32 b, u32 c, u32 d] M = some (u32 (a <<< 24 ||| b <<< 16 ||| c <<< 8 ||| d), [], M) := by
  rw [call_fn (by rfl) (by simp)]
  simp

/-- The word of a text at a place. -/
def wat (big : Bool) (s : List UInt8) (i : Nat) : BitVec 32 :=
  if big then wd (nth s (4 * i + 3)) (nth s (4 * i + 2)) (nth s (4 * i + 1)) (nth s (4 * i)) else wd (nth s (4 * i)) (nth s (4 * i + 1)) (nth s (4 * i + 2)) (nth s (4 * i + 3))

def wf (big : Bool) : Nat := if big then 27 else 26

theorem word_ev (k : Nat) (M : Mem) (big : Bool) (s : List UInt8) (i : Nat) :
    callFn SP (k + 1) (wf big) [u32 (w8 (nth s (4 * i))), u32 (w8 (nth s (4 * i + 1))), u32 (w8 (nth s (4 * i + 2))), u32 (w8 (nth s (4 * i + 3)))] M = some (u32 (wat big s i), [], M) := by
  cases big
  · simp only [wf, wat, if_false, Bool.false_eq_true, little_word]; rfl
  · simp only [wf, wat, if_true, big_word, wd_rev]

set_option maxHeartbeats 4000000 in
theorem l25 (k : Nat) (M : Mem) (big : Bool) (s : List UInt8) (N : Nat) (hs : s.length = 4 * N) (hN : N < 2 ^ 40) (j : Nat) : ∀ (i n : Nat), i + j = N → j < n →
    fgt a25_0 (rnd0 (some (e25_0 (.str s) (.func (wf big) [] []) (.slice (some ⟨M.length, 12012, N, 0⟩) N 1) (.int .i64 N) (.int .i64 i), mk [(12012, .cells ((fil (wat big s) 0 N i).map u32) true true)] :: M)) k25_0 (callFn SP (k + 1)) s25_b0 n) =
      some (.exit 0, x25_0 (.slice (some ⟨M.length, 12012, N, 0⟩) N 1), mk [(12012, .cells ((fil (wat big s) 0 N N).map u32) true true)] :: M) := by
  induction j with
  | zero =>
    intro i n h hn
    obtain rfl : i = N := by omega
    rw [rnd0_some]
    conv => lhs; arg 2; arg 1; rw [s25_b0]
    simp [-List.map_set]
  | succ j ih0 =>
    intro i n h hn
    obtain ⟨n, rfl⟩ : ∃ m, n = m + 1 := ⟨n - 1, by omega⟩
    have hi : i < N := by omega
    have ih := ih0 (i + 1) n (by omega) (by omega)
    have hw := fun M => word_ev k M big s i
    simp only [w8] at hw
    have t0 : (4 * (i : Int)).toNat = 4 * i := by omega
    have t1 : (4 * (i : Int) + 1).toNat = 4 * i + 1 := by omega
    have t2 : (4 * (i : Int) + 2).toNat = 4 * i + 2 := by omega
    have t3 : (4 * (i : Int) + 3).toNat = 4 * i + 3 := by omega
    rw [rnd0_some]
    conv => lhs; arg 2; arg 1; rw [s25_b0]
    simpa (disch := omega) [-List.map_set, hi, byteAt_lt, if_pos, fil_set, IntWalk.i64_in, t0, t1, t2, t3, hw] using ih

end Go.Proofs.Ytjaloajnlpepcaa
