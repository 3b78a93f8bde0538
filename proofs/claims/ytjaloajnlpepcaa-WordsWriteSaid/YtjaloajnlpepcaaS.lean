/-
  The document's words of a text.
-/
import Derived.Test.YtjaloajnlpepcaaT
namespace Go.Proofs.Ytjaloajnlpepcaa
open Go.Det
set_option maxRecDepth 100000
set_option maxHeartbeats 4000000
set_option linter.unusedSimpArgs false
set_option linter.unusedVariables false

def hor (big : Bool) (s : List UInt8) (i : Nat) : Nat → BitVec 32
  | 0 => 0#32
  | k + 1 => 256#32 * hor big s i k + w8 (nth s (if big then 4 * i + k else 4 * i + 3 - k))

theorem hor_four (big : Bool) (s : List UInt8) (i : Nat) : hor big s i 4 = wat big s i := by
  apply BitVec.eq_of_toNat_eq
  cases big
  · simp only [hor, wat, wd_nat, Bool.false_eq_true, if_false, BitVec.toNat_add, BitVec.toNat_mul, w8_nat, Nat.add_sub_cancel, show 4 * i + 3 - 0 = 4 * i + 3 from rfl, show 4 * i + 3 - 1 = 4 * i + 2 from rfl, show 4 * i + 3 - 2 = 4 * i + 1 from rfl]
    have h0 := (nth s (4 * i)).toNat_lt
    have h1 := (nth s (4 * i + 1)).toNat_lt
    have h2 := (nth s (4 * i + 2)).toNat_lt
    have h3 := (nth s (4 * i + 3)).toNat_lt
    generalize (nth s (4 * i)).toNat = a0 at *
    generalize (nth s (4 * i + 1)).toNat = a1 at *
    generalize (nth s (4 * i + 2)).toNat = a2 at *
    generalize (nth s (4 * i + 3)).toNat = a3 at *
    show (256 * ((256 * ((256 * ((256 * 0 % 4294967296 + a3) % 4294967296) % 4294967296 + a2) % 4294967296) % 4294967296 + a1) % 4294967296) % 4294967296 + a0) % 4294967296 = _
    omega
  · simp only [hor, wat, wd_nat, if_true, BitVec.toNat_add, BitVec.toNat_mul, w8_nat, Nat.add_zero]
    have h0 := (nth s (4 * i)).toNat_lt
    have h1 := (nth s (4 * i + 1)).toNat_lt
    have h2 := (nth s (4 * i + 2)).toNat_lt
    have h3 := (nth s (4 * i + 3)).toNat_lt
    generalize (nth s (4 * i)).toNat = a0 at *
    generalize (nth s (4 * i + 1)).toNat = a1 at *
    generalize (nth s (4 * i + 2)).toNat = a2 at *
    generalize (nth s (4 * i + 3)).toNat = a3 at *
    show (256 * ((256 * ((256 * ((256 * 0 % 4294967296 + a0) % 4294967296) % 4294967296 + a1) % 4294967296) % 4294967296 + a2) % 4294967296) % 4294967296 + a3) % 4294967296 = _
    omega

theorem l13_1 (C : Det.Calls) (M : Mem) (big : Bool) (s : List UInt8) (l : List AV) (i N : Nat) (hs : s.length = 4 * N) (hi : i < N) (hN : N < 2 ^ 40) (j : Nat) : ∀ (kk n : Nat), kk + j = 4 → j < n →
    fgt a13_1 (rnd0 (some (e13_1 (.str s) (.bool big) (gv M.length 60012 l) (.int .i64 (4 * (i : Int))) (u32 (hor big s i kk)) (.int .i64 kk), mk (gm 60012 true l) :: M)) k13_1 C s13_b1 n) =
      some (.exit 2, x13_1 (.str s) (.bool big) (gv M.length 60012 l) (.int .i64 (4 * (i : Int))) (u32 (hor big s i 4)), mk (gm 60012 true l) :: M) := by
  induction j with
  | zero =>
    intro kk n h hn
    obtain rfl : kk = 4 := by omega
    rw [rnd0_some]
    conv => lhs; arg 2; arg 1; rw [s13_b1]
    by_cases h0 : l = []
    · subst h0; simp [gv_nil, gm_nil]
    · simp [gv_ne _ _ _ h0, gm_ne _ _ _ h0]
  | succ j ih0 =>
    intro kk n h hn
    obtain ⟨n, rfl⟩ : ∃ m, n = m + 1 := ⟨n - 1, by omega⟩
    have ih := ih0 (kk + 1) n (by omega) (by omega)
    rw [show hor big s i (kk + 1) = 256#32 * hor big s i kk + w8 (nth s (if big then 4 * i + kk else 4 * i + 3 - kk)) from rfl] at ih
    simp only [w8] at ih
    have hk : kk < 4 := by omega
    rw [rnd0_some]
    conv => lhs; arg 2; arg 1; rw [s13_b1]
    cases big
    · have t0 : (4 * (i : Int) + 3 - (kk : Int)).toNat = 4 * i + 3 - kk := by omega
      by_cases h0 : l = []
      · subst h0
        simpa (disch := omega) [gv_nil, gm_nil, hk, byteAt_lt, t0, IntWalk.i64_in, if_pos] using ih
      · simpa (disch := omega) [gv_ne _ _ _ h0, gm_ne _ _ _ h0, hk, byteAt_lt, t0, IntWalk.i64_in, if_pos] using ih
    · have t0 : (4 * (i : Int) + (kk : Int)).toNat = 4 * i + kk := by omega
      by_cases h0 : l = []
      · subst h0
        simpa (disch := omega) [gv_nil, gm_nil, hk, byteAt_lt, t0, IntWalk.i64_in, if_pos] using ih
      · simpa (disch := omega) [gv_ne _ _ _ h0, gm_ne _ _ _ h0, hk, byteAt_lt, t0, IntWalk.i64_in, if_pos] using ih

end Go.Proofs.Ytjaloajnlpepcaa
