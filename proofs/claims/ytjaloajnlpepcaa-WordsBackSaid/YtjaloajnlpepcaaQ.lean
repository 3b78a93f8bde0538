/-
  The text of words: words.FromLittle, words.FromBig.
-/
import Derived.Test.YtjaloajnlpepcaaR
import Derived.Test.YtjaloajnlpepcaaDetU
namespace Go.Proofs.Ytjaloajnlpepcaa
open Go.Det
set_option maxRecDepth 100000
set_option maxHeartbeats 4000000
set_option linter.unusedSimpArgs false
set_option linter.unusedVariables false

def by4 (big : Bool) (x : BitVec 32) : List UInt8 :=
  if big then [low8 (x >>> 24), low8 (x >>> 16), low8 (x >>> 8), low8 x] else [low8 x, low8 (x >>> 8), low8 (x >>> 16), low8 (x >>> 24)]
theorem by4_len (big : Bool) (x : BitVec 32) : (by4 big x).length = 4 := by cases big <;> rfl
def tx (big : Bool) : List (BitVec 32) → List UInt8
  | [] => []
  | x :: l => by4 big x ++ tx big l
theorem tx_len (big : Bool) : ∀ l, (tx big l).length = 4 * l.length
  | [] => rfl
  | x :: l => by rw [tx, List.length_append, by4_len, tx_len big l, List.length_cons]; omega
theorem tx_app (big : Bool) : ∀ l m, tx big (l ++ m) = tx big l ++ tx big m
  | [], m => rfl
  | x :: l, m => by rw [List.cons_append, tx, tx_app big l m, tx, List.append_assoc]
theorem take_succ_nth (l : List (BitVec 32)) (i : Nat) (h : i < l.length) : l.take (i + 1) = l.take i ++ [nth l i] := by
  rw [List.take_add_one, getElem?_nth l i h]; rfl
theorem tx_take (big : Bool) (l : List (BitVec 32)) (i : Nat) (h : i < l.length) : tx big (l.take (i + 1)) = tx big (l.take i) ++ by4 big (nth l i) := by
  rw [take_succ_nth l i h, tx_app, tx, tx, List.append_nil]

theorem l21 (C : Det.Calls) (M : Mem) (d id z : Nat) (rw_ fl : Bool) (r : List AV) (l : List (BitVec 32)) (N : Nat) (h1 : l.length = N) (hN : N < 2 ^ 40)
    (hd : d < M.length) (hg : ∀ o, get M ⟨d, id, z, o⟩ = some (.cells (l.map u32 ++ r) rw_ fl)) (j : Nat) :
    ∀ (i n : Nat), i + j = N → j < n →
    fgt a21_0 (rnd0 (some (e21_0 (.slice (some ⟨M.length, 4012, 4 * i, 0⟩) (4 * i) 1) (.slice (some ⟨d, id, z, 0⟩) N 1) (.int .i64 N) (.int .i64 i), mk [(4012, .cells ((tx false (l.take i)).map byteAV) true true)] :: M)) k21_0 C s21_b0 n) =
      some (.exit 0, x21_0 (.slice (some ⟨M.length, 4012, 4 * N, 0⟩) (4 * N) 1), mk [(4012, .cells ((tx false l).map byteAV) true true)] :: M) := by
  have hn1 : d ≠ M.length := by omega
  induction j with
  | zero =>
    intro i n h hn
    obtain rfl : i = N := by omega
    rw [rnd0_some]
    conv => lhs; arg 2; arg 1; rw [s21_b0]
    rw [List.take_of_length_le (by omega)]
    simp
  | succ j ih0 =>
    intro i n h hn
    obtain ⟨n, rfl⟩ : ∃ m, n = m + 1 := ⟨n - 1, by omega⟩
    have hi : i < N := by omega
    have ih := ih0 (i + 1) n (by omega) (by omega)
    have ga := map_app_get u32 l r i (by omega)
    have hl : (tx false (l.take i)).length = 4 * i := by rw [tx_len, List.length_take]; omega
    rw [tx_take false l i (by omega), by4, if_neg (by simp), Nat.mul_add] at ih
    rw [rnd0_some]
    conv => lhs; arg 2; arg 1; rw [s21_b0]
    simpa (disch := omega) [hi, get_low, hd, hg, ga, hl, if_pos, hn1, IntWalk.i64_in] using ih

theorem l23 (C : Det.Calls) (M : Mem) (d id z : Nat) (rw_ fl : Bool) (r : List AV) (l : List (BitVec 32)) (N : Nat) (h1 : l.length = N) (hN : N < 2 ^ 40)
    (hd : d < M.length) (hg : ∀ o, get M ⟨d, id, z, o⟩ = some (.cells (l.map u32 ++ r) rw_ fl)) (j : Nat) :
    ∀ (i n : Nat), i + j = N → j < n →
    fgt a23_0 (rnd0 (some (e23_0 (.slice (some ⟨M.length, 4012, 4 * i, 0⟩) (4 * i) 1) (.slice (some ⟨d, id, z, 0⟩) N 1) (.int .i64 N) (.int .i64 i), mk [(4012, .cells ((tx true (l.take i)).map byteAV) true true)] :: M)) k23_0 C s23_b0 n) =
      some (.exit 0, x23_0 (.slice (some ⟨M.length, 4012, 4 * N, 0⟩) (4 * N) 1), mk [(4012, .cells ((tx true l).map byteAV) true true)] :: M) := by
  have hn1 : d ≠ M.length := by omega
  induction j with
  | zero =>
    intro i n h hn
    obtain rfl : i = N := by omega
    rw [rnd0_some]
    conv => lhs; arg 2; arg 1; rw [s23_b0]
    rw [List.take_of_length_le (by omega)]
    simp
  | succ j ih0 =>
    intro i n h hn
    obtain ⟨n, rfl⟩ : ∃ m, n = m + 1 := ⟨n - 1, by omega⟩
    have hi : i < N := by omega
    have ih := ih0 (i + 1) n (by omega) (by omega)
    have ga := map_app_get u32 l r i (by omega)
    have hl : (tx true (l.take i)).length = 4 * i := by rw [tx_len, List.length_take]; omega
    rw [tx_take true l i (by omega), by4, if_pos rfl, Nat.mul_add] at ih
    rw [rnd0_some]
    conv => lhs; arg 2; arg 1; rw [s23_b0]
    simpa (disch := omega) [hi, get_low, hd, hg, ga, hl, if_pos, hn1, IntWalk.i64_in] using ih

end Go.Proofs.Ytjaloajnlpepcaa
