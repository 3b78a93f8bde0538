/-
  NONCE: numbers read.
-/
import Derived.Test.YtkgbceeonmdlgaaN
set_option maxRecDepth 100000
set_option maxHeartbeats 4000000
set_option linter.unusedSimpArgs false
set_option linter.unusedVariables false
namespace Go.Proofs.Ytkgbceeonmdlgaa
open Go.Det Go.Det.K

/-- What is read of a text: the epoch, the number, the error. -/
def rread (S : List UInt8) : BitVec 64 × BitVec 64 × Int :=
  if S.length = 12 then (if mayE (hor8 S 0 8) then (hor8 S 0 8, hor8 S 8 4, 0) else (0#64, 0#64, 2)) else (0#64, 0#64, 7)

theorem l36_0 (C : Det.Calls) (M : Mem) (S : List UInt8) (hl : S.length = 12) (j : Nat) : ∀ (i n : Nat), i + j = 8 → j < n →
    fgt a36_0 (rnd0 (some (e36_0 (.str S) (u64 (hor8 S 0 i)) (.int .i64 i), mk [] :: M)) k36_0 C s36_b0 n) = some (.exit 0, x36_0 (.str S) (u64 (hor8 S 0 8)), mk [] :: M) := by
  induction j with
  | zero =>
    intro i n h hn
    obtain rfl : i = 8 := by omega
    rw [rnd0_some]
    conv => lhs; arg 2; arg 1; rw [s36_b0]
    simp
  | succ j ih0 =>
    intro i n h hn
    obtain ⟨n, rfl⟩ : ∃ m, n = m + 1 := ⟨n - 1, by omega⟩
    have ih := ih0 (i + 1) n (by omega) (by omega)
    rw [show hor8 S 0 (i + 1) = 256#64 * hor8 S 0 i + (nth S (0 + i)).toBitVec.setWidth 64 from rfl, Nat.zero_add] at ih
    have hk : i < 8 := by omega
    rw [rnd0_some]
    conv => lhs; arg 2; arg 1; rw [s36_b0]
    simpa (disch := omega) [hk, byteAt_lt, if_pos, IntWalk.i64_in] using ih

theorem l36_1 (C : Det.Calls) (M : Mem) (S : List UInt8) (e : BitVec 64) (hl : S.length = 12) (j : Nat) : ∀ (i n : Nat), i + j = 4 → j < n →
    fgt a36_1 (rnd0 (some (e36_1 (.str S) (u64 e) (u64 (hor8 S 8 i)) (.int .i64 (8 + (i : Int))), mk [] :: M)) k36_1 C s36_b1 n) = some (.exit 2, x36_1 (u64 e) (u64 (hor8 S 8 4)), mk [] :: M) := by
  induction j with
  | zero =>
    intro i n h hn
    obtain rfl : i = 4 := by omega
    rw [rnd0_some]
    conv => lhs; arg 2; arg 1; rw [s36_b1]
    simp
  | succ j ih0 =>
    intro i n h hn
    obtain ⟨n, rfl⟩ : ∃ m, n = m + 1 := ⟨n - 1, by omega⟩
    have ih := ih0 (i + 1) n (by omega) (by omega)
    rw [show hor8 S 8 (i + 1) = 256#64 * hor8 S 8 i + (nth S (8 + i)).toBitVec.setWidth 64 from rfl] at ih
    have hk : (8 + (i : Int)) < 12 := by omega
    have t0 : (8 + (i : Int)).toNat = 8 + i := by omega
    rw [rnd0_some]
    conv => lhs; arg 2; arg 1; rw [s36_b1]
    simpa (disch := omega) [hk, t0, byteAt_lt, if_pos, IntWalk.i64_in, Int.add_assoc] using ih

theorem hor4_nat (S : List UInt8) : (hor8 S 8 4).toNat = (W.wat true (S.drop 8) 0).toNat := by
  simp only [W.wat, if_true, W.wd_nat]
  have hnd : ∀ k, nth (S.drop 8) k = nth S (8 + k) := fun k => by simp [nth, List.getD, List.getElem?_drop]
  simp only [hnd, hor8, BitVec.toNat_add, BitVec.toNat_mul, BitVec.toNat_setWidth, UInt8.toNat_toBitVec, Nat.mul_zero, Nat.zero_add, Nat.reduceAdd]
  have h0 := (nth S 8).toNat_lt
  have h1 := (nth S 9).toNat_lt
  have h2 := (nth S 10).toNat_lt
  have h3 := (nth S 11).toNat_lt
  generalize (nth S 8).toNat = b0 at *
  generalize (nth S 9).toNat = b1 at *
  generalize (nth S 10).toNat = b2 at *
  generalize (nth S 11).toNat = b3 at *
  simp only [show (256#64 : BitVec 64).toNat = 256 from rfl, show (0#64 : BitVec 64).toNat = 0 from rfl]
  omega

theorem hor4_eq (S : List UInt8) : (W.wat true (S.drop 8) 0).setWidth 64 = hor8 S 8 4 := by
  apply BitVec.eq_of_toNat_eq
  have := (W.wat true (S.drop 8) 0).isLt
  rw [hor4_nat, BitVec.toNat_setWidth]
  omega

theorem hor4_le (S : List UInt8) : hor8 S 8 4 ≤ 4294967295#64 := by
  have := (W.wat true (S.drop 8) 0).isLt
  rw [← hor4_nat] at this
  rw [BitVec.le_def]
  show _ ≤ 4294967295
  omega

theorem refread_ev (k : Nat) (M : Mem) (S : List UInt8) (hs : S.length < 2 ^ 48) : callFn SP (k + 2) 36 [.str S] M = some (.tuple [u64 (rread S).1, u64 (rread S).2.1, .int .i64 (rread S).2.2], [], M) := by
  rw [call_fn (by rfl) (by simp)]
  unfold rread
  by_cases h1 : S.length = 12
  · have hl := l36_0 (callFn SP (k + 1)) M S h1 8 0 9 rfl (by omega)
    have hl2 := l36_1 (callFn SP (k + 1)) M S (hor8 S 0 8) h1 4 0 5 rfl (by omega)
    have hle := hor4_le S
    rw [show hor8 S 0 0 = 0#64 from rfl] at hl
    rw [show hor8 S 8 0 = 0#64 from rfl] at hl2
    simp (disch := omega) [h1]
    rw [ev_loop 9 (by simp) hl (by omega)]
    simp (disch := omega) [h1]
    rw [ev_loop 5 (by simp) hl2 (by omega)]
    by_cases h2 : mayE (hor8 S 0 8)
    · simp (disch := omega) [h1, refmay_ev, h2, hle]
    · simp (disch := omega) [h1, refmay_ev, h2, hle]
  · have h2 : (S.length : Int) ≠ 12 := by omega
    simp (disch := omega) [h1, h2]

theorem read_ev (k : Nat) (M : Mem) (S : List UInt8) (hs : S.length < 2 ^ 48) : callFn SP (k + 6) 35 [.str S] M = some (.tuple [u64 (rread S).1, u64 (rread S).2.1, .int .i64 (rread S).2.2], [], M) := by
  rw [call_fn (by rfl) (by simp)]
  unfold rread
  by_cases h1 : S.length = 12
  · have hb := fun k M => W.big_ev (SP := SP) (n14 := 41) (n25 := 43) (n27 := 44) rfl rfl rfl k M (S.drop 8) 1 (by rw [List.length_drop]; omega) (by omega)
    rw [show tab (W.wat true (S.drop 8)) 1 = [W.wat true (S.drop 8) 0] from rfl] at hb
    have hr : rnum (S.take 8, 0) = (hor8 S 0 8, ([], 0)) := by
      have hne : S.take 8 ≠ [] := fun h => by have := congrArg List.length h; rw [List.length_take, List.length_nil] at this; omega
      have h8 := two_hor S 0
      rw [List.drop_zero] at h8
      have h3 : rtake 8#64 (S.take 8, 0) = (S.take 8, ([], 0)) := by
        have := rtake_app 8#64 (S.take 8) [] (by rw [List.length_take]; show min 8 _ = 8; omega)
        rwa [List.append_nil] at this
      unfold rnum
      rw [h3]
      simp only [if_neg hne, h8]
    have hrn := fun k M id => rnmT k M id (S.take 8) 0 true [] (by rw [List.length_take]; omega)
    simp only [hr] at hrn
    have hS12 : S.take 12 = S := List.take_of_length_le (by omega)
    rw [← hor4_eq]
    by_cases h2 : mayE (hor8 S 0 8)
    · simp (disch := omega) [h1, newr, rc, hrn, hb, hS12, may_ev, h2]
    · simp (disch := omega) [h1, newr, rc, hrn, hb, hS12, may_ev, h2]
  · have h2 : (S.length : Int) ≠ 12 := by omega
    simp (disch := omega) [h1, h2]

end Go.Proofs.Ytkgbceeonmdlgaa
