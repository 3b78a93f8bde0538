/-
  Words turned.
-/
import Derived.Test.YtjaloajnlpepcaaG
import Derived.Test.YtjaloajnlpepcaaDetT
import Derived.Test.YtjaloajnlpepcaaDetS
namespace Go.Proofs.Ytjaloajnlpepcaa
open Go.Det
set_option maxRecDepth 100000
set_option linter.unusedSimpArgs false
set_option linter.unusedVariables false

/-- Turned to the left. -/
def rot (x : BitVec 32) (t : Nat) : BitVec 32 := x.rotateLeft t

theorem rot_bit (x : BitVec 32) (t i : Nat) (h : i < 32) : (rot x t).getLsbD i = x.getLsbD ((i + 32 - t % 32) % 32) := by
  unfold rot
  rw [BitVec.getLsbD_rotateLeft]
  by_cases h1 : i < t % 32
  · simp only [h1, cond_true, decide_true]
    congr 1
    omega
  · simp only [h1, cond_false, decide_false, h, decide_true, Bool.true_and]
    congr 1
    omega

theorem rot_ext (x y : BitVec 32) (h : ∀ i, i < 32 → x.getLsbD i = y.getLsbD i) : x = y := BitVec.eq_of_getLsbD_eq h

theorem rot_rot (x : BitVec 32) (a b : Nat) : rot (rot x a) b = rot x (a + b) := by
  refine rot_ext _ _ fun i hi => ?_
  rw [rot_bit _ _ _ hi, rot_bit _ _ _ (by omega), rot_bit _ _ _ hi]
  congr 1
  omega

theorem rot_eq (x : BitVec 32) (a b : Nat) (h : a % 32 = b % 32) : rot x a = rot x b := by
  refine rot_ext _ _ fun i hi => ?_
  rw [rot_bit _ _ _ hi, rot_bit _ _ _ hi, h]

theorem rot_zero (x : BitVec 32) : rot x 0 = x := by
  refine rot_ext _ _ fun i hi => ?_
  rw [rot_bit _ _ _ hi]
  congr 1
  omega

/-- How far a number of places turns. -/
def tn (n : Int) : Nat := (n % 32).toNat
theorem tn_lt (n : Int) : tn n < 32 := by unfold tn; omega

theorem k_toNat (n : Int) : (BitVec.ofInt 64 n % 32#64).toNat = tn n := by
  rw [BitVec.toNat_umod, BitVec.toNat_ofInt]
  unfold tn
  show (n % 18446744073709551616).toNat % 32 = _
  omega

theorem left_val (x : BitVec 32) (n : Int) : x <<< (BitVec.ofInt 64 n % 32#64).toNat ||| x >>> (32#64 - BitVec.ofInt 64 n % 32#64).toNat = rot x (tn n) := by
  have h := k_toNat n
  have ht := tn_lt n
  have h2 : (32#64 - BitVec.ofInt 64 n % 32#64).toNat = 32 - tn n := by
    rw [BitVec.toNat_sub, h]
    show (18446744073709551616 - tn n + 32) % 18446744073709551616 = _
    omega
  rw [h, h2]
  unfold rot
  rw [BitVec.rotateLeft_def, Nat.mod_eq_of_lt ht]

theorem left_ev (k : Nat) (M : Mem) (x : BitVec 32) (n : Int) : callFn SP (k + 1) 17 [u32 x, .int .i64 n] M = some (u32 (rot x (tn n)), [], M) := by
  rw [call_fn (by rfl) (by simp)]
  have h := left_val x n
  simp at h
  simp (disch := omega) [if_pos, if_neg, h]

theorem right_ev (k : Nat) (M : Mem) (s : Scope) (x : BitVec 32) (n : Int) : callFn SP (k + 2) 19 [u32 x, .int .i64 n] (s :: M) = some (u32 (rot x (32 - tn n)), [], s :: M) := by
  rw [call_fn (by rfl) (by simp)]
  have ht := tn_lt n
  have h := k_toNat n
  have e : (BitVec.ofInt 64 n % 32#64).toNat = tn n := h
  simp at e
  simp (disch := omega) [if_pos, if_neg, e, IntWalk.i64_in, left_ev]
  refine rot_eq _ _ _ ?_
  unfold tn
  omega

theorem step_left (x : BitVec 32) : x * 2#32 + x / 2147483648#32 = rot x 1 := by
  have h1 : x * 2#32 = x <<< 1 := by
    apply BitVec.eq_of_toNat_eq
    rw [BitVec.toNat_mul, BitVec.toNat_shiftLeft, Nat.shiftLeft_eq]
    rfl
  have h2 : x / 2147483648#32 = x >>> 31 := by
    apply BitVec.eq_of_toNat_eq
    rw [BitVec.toNat_udiv, BitVec.toNat_ushiftRight, Nat.shiftRight_eq_div_pow]
    rfl
  rw [h1, h2]
  have h3 : x <<< 1 &&& x >>> 31 = 0#32 := by
    apply BitVec.eq_of_getLsbD_eq
    intro i hi
    simp only [BitVec.getLsbD_and, BitVec.getLsbD_shiftLeft, BitVec.getLsbD_ushiftRight, BitVec.getLsbD_zero]
    by_cases h0 : i = 0
    · subst h0; simp
    · have : x.getLsbD (31 + i) = false := BitVec.getLsbD_of_ge _ _ (by omega)
      simp [this]
  rw [BitVec.add_eq_or_of_and_eq_zero _ _ h3]
  unfold rot
  rw [BitVec.rotateLeft_def]

theorem step_right (x : BitVec 32) : x / 2#32 + (x % 2#32) * 2147483648#32 = rot x 31 := by
  have h1 : x % 2#32 * 2147483648#32 = x <<< 31 := by
    apply BitVec.eq_of_toNat_eq
    rw [BitVec.toNat_mul, BitVec.toNat_umod, BitVec.toNat_shiftLeft, Nat.shiftLeft_eq]
    show x.toNat % 2 * 2147483648 % 4294967296 = x.toNat * 2147483648 % 4294967296
    omega
  have h2 : x / 2#32 = x >>> 1 := by
    apply BitVec.eq_of_toNat_eq
    rw [BitVec.toNat_udiv, BitVec.toNat_ushiftRight, Nat.shiftRight_eq_div_pow]
    rfl
  rw [h1, h2, BitVec.add_comm]
  have h3 : x <<< 31 &&& x >>> 1 = 0#32 := by
    apply BitVec.eq_of_getLsbD_eq
    intro i hi
    simp only [BitVec.getLsbD_and, BitVec.getLsbD_shiftLeft, BitVec.getLsbD_ushiftRight, BitVec.getLsbD_zero]
    by_cases h0 : i = 31
    · subst h0
      have : x.getLsbD (1 + 31) = false := BitVec.getLsbD_of_ge _ _ (by omega)
      simp [this]
    · have : i < 31 := by omega
      simp [this]
  rw [BitVec.add_eq_or_of_and_eq_zero _ _ h3]
  unfold rot
  rw [BitVec.rotateLeft_def]

theorem l18 (C : Det.Calls) (M : Mem) (N : Nat) (hN : N < 32) : ∀ (j i n : Nat) (x : BitVec 32), i + j = N → j < n →
    fgt a18_0 (rnd0 (some (e18_0 (u32 x) (.int .i64 N) (.int .i64 i), mk [] :: M)) k18_0 C s18_b0 n) = some (.exit 0, x18_0 (u32 (rot x j)), mk [] :: M)
  | 0, i, n, x, h, hn => by
    obtain rfl : i = N := by omega
    rw [rnd0_some, rot_zero]
    conv => lhs; arg 2; arg 1; rw [s18_b0]
    simp
  | j + 1, i, n, x, h, hn => by
    obtain ⟨n, rfl⟩ : ∃ m, n = m + 1 := ⟨n - 1, by omega⟩
    have ih := l18 C M N hN j (i + 1) n (rot x 1) (by omega) (by omega)
    rw [rot_rot, Nat.add_comm 1 j] at ih
    have hs := step_left x
    rw [rnd0_some]
    conv => lhs; arg 2; arg 1; rw [s18_b0]
    simpa (disch := omega) [hs, IntWalk.i64_in] using ih

theorem l20 (C : Det.Calls) (M : Mem) (N : Nat) (hN : N < 32) (j : Nat) : ∀ (i n : Nat) (x : BitVec 32), i + j = N → j < n →
    fgt a20_0 (rnd0 (some (e20_0 (u32 x) (.int .i64 N) (.int .i64 i), mk [] :: M)) k20_0 C s20_b0 n) = some (.exit 0, x20_0 (u32 (rot x (31 * j))), mk [] :: M) := by
  induction j with
  | zero =>
    intro i n x h hn
    obtain rfl : i = N := by omega
    rw [rnd0_some, Nat.mul_zero, rot_zero]
    conv => lhs; arg 2; arg 1; rw [s20_b0]
    simp
  | succ j ih0 =>
    intro i n x h hn
    obtain ⟨n, rfl⟩ : ∃ m, n = m + 1 := ⟨n - 1, by omega⟩
    have ih := ih0 (i + 1) n (rot x 31) (by omega) (by omega)
    rw [rot_rot, show 31 + 31 * j = 31 * (j + 1) by omega] at ih
    have hs := step_right x
    rw [rnd0_some]
    conv => lhs; arg 2; arg 1; rw [s20_b0]
    simpa (disch := omega) [hs, IntWalk.i64_in] using ih

theorem tmod32 (n : Int) : n.tmod 32 = n % 32 ∨ n.tmod 32 = n % 32 - 32 ∧ n.tmod 32 < 0 := by
  rcases Int.le_total 0 n with h | h
  · left; exact Int.tmod_eq_emod_of_nonneg h
  · have e : n.tmod 32 = -((-n).tmod 32) := by rw [Int.neg_tmod]; omega
    rw [Int.tmod_eq_emod_of_nonneg (by omega : 0 ≤ -n)] at e
    omega

theorem refleft_ev (k : Nat) (M : Mem) (x : BitVec 32) (n : Int) (hn : -9223372036854775808 ≤ n ∧ n ≤ 9223372036854775807) : callFn SP (k + 1) 18 [u32 x, .int .i64 n] M = some (u32 (rot x (tn n)), [], M) := by
  rw [call_fn (by rfl) (by simp)]
  have hm := tmod32 n
  have ht := tn_lt n
  have e : (tn n : Int) = n % 32 := by unfold tn; omega
  have hl := l18 (callFn SP k) M (tn n) ht (tn n) 0 (tn n + 1) x (Nat.zero_add _) (Nat.lt_succ_self _)
  by_cases h0 : n.tmod 32 < 0
  · have e2 : n.tmod 32 + 32 = (tn n : Int) := by omega
    simp (disch := omega) [h0, e2, IntWalk.i64_in]
    rw [ev_loop (tn n + 1) (by simp) hl (by omega)]
    simp
  · have e2 : n.tmod 32 = (tn n : Int) := by omega
    simp (disch := omega) [h0, e2, IntWalk.i64_in]
    rw [ev_loop (tn n + 1) (by simp) hl (by omega)]
    simp

theorem refright_ev (k : Nat) (M : Mem) (x : BitVec 32) (n : Int) (hn : -9223372036854775808 ≤ n ∧ n ≤ 9223372036854775807) : callFn SP (k + 1) 20 [u32 x, .int .i64 n] M = some (u32 (rot x (31 * tn n)), [], M) := by
  rw [call_fn (by rfl) (by simp)]
  have hm := tmod32 n
  have ht := tn_lt n
  have e : (tn n : Int) = n % 32 := by unfold tn; omega
  have hl := l20 (callFn SP k) M (tn n) ht (tn n) 0 (tn n + 1) x (Nat.zero_add _) (Nat.lt_succ_self _)
  by_cases h0 : n.tmod 32 < 0
  · have e2 : n.tmod 32 + 32 = (tn n : Int) := by omega
    simp (disch := omega) [h0, e2, IntWalk.i64_in]
    rw [ev_loop (tn n + 1) (by simp) hl (by omega)]
    simp
  · have e2 : n.tmod 32 = (tn n : Int) := by omega
    simp (disch := omega) [h0, e2, IntWalk.i64_in]
    rw [ev_loop (tn n + 1) (by simp) hl (by omega)]
    simp

theorem right_same (x : BitVec 32) (n : Int) : rot x (31 * tn n) = rot x (32 - tn n) := by
  have := tn_lt n
  exact rot_eq _ _ _ (by omega)

end Go.Proofs.Ytjaloajnlpepcaa
