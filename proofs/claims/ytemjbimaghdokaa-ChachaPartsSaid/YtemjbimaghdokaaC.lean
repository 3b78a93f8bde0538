/-
  CHACHA, part C: part by part.
-/
import Derived.Test.YtemjbimaghdokaaB
set_option maxRecDepth 100000
set_option maxHeartbeats 4000000
set_option linter.unusedSimpArgs false
set_option linter.unusedVariables false
namespace Go.Proofs.Ytemjbimaghdokaa
open Go.Det Go.Det.C

/-! ### part by part -/
theorem crypt_part (key nonce : List UInt8) (c : BitVec 32) (s : List UInt8) (m : Nat) : crypt key nonce (c + BitVec.ofNat 32 m) ((s.drop (64 * m)).take 64) = ((crypt key nonce c s).drop (64 * m)).take 64 := by
  refine nth_ext (by simp [crypt_len]) fun p hp => ?_
  simp [crypt_len] at hp
  rw [crypt, nth_tab _ _ _ (by simp; omega)]
  have e1 : nth ((s.drop (64 * m)).take 64) p = nth s (64 * m + p) := by simp [nth, List.getD, List.getElem?_take, show p < 64 by omega, List.getElem?_drop]
  have e2 : nth (((crypt key nonce c s).drop (64 * m)).take 64) p = nth (crypt key nonce c s) (64 * m + p) := by simp [nth, List.getD, List.getElem?_take, show p < 64 by omega, List.getElem?_drop]
  rw [e1, e2, crypt, nth_tab _ _ _ (by omega), ksb, ksb, show p / 64 = 0 by omega, show (64 * m + p) / 64 = m by omega, show (64 * m + p) % 64 = p % 64 by omega]
  simp

theorem l7 (k : Nat) (M : Mem) (a b : List UInt8) (ha : a.length = 32) (hb : b.length = 12) (c : BitVec 32) (s T : List UInt8) (hT : T = crypt a b c s) (hs : s.length ≤ 600) (N : Nat) (hN : N = (s.length + 63) / 64) (j : Nat) : ∀ (i n : Nat), i + j = N → j < n →
    fgt a7_0 (rnd0 (some (e7_0 (u32 c) (.str s) (.str a) (.str b) (.str T) (.int .i64 0) (.str (T.take (64 * i))) (.int .i64 (64 * (i : Int))), mk [] :: M)) k7_0 (callFn SP (k + 6)) s7_b0 n) =
      some (.exit 0, x7_0 .dead (.str T) (.int .i64 0) (.str T), mk [] :: M) := by
  have hTl : T.length = s.length := by rw [hT, crypt_len]
  induction j with
  | zero =>
    intro i n h hn
    obtain rfl : i = N := by omega
    have h1 : ¬ 64 * (i : Int) < s.length := by omega
    rw [rnd0_some]
    conv => lhs; arg 2; arg 1; rw [s7_b0]
    rw [List.take_of_length_le (by omega)]
    simp [h1]
  | succ j ih0 =>
    intro i n h hn
    obtain ⟨n, rfl⟩ : ∃ m, n = m + 1 := ⟨n - 1, by omega⟩
    have ih := ih0 (i + 1) n (by omega) (by omega)
    have h1 : 64 * (i : Int) < s.length := by omega
    have e1 : (T.take (64 * i)).length = 64 * i := by rw [List.length_take]; omega
    have hP := crypt_part a b c s i
    rw [← hT] at hP
    have hlen : ((s.drop (64 * i)).take 64).length ≤ 64 := by rw [List.length_take]; omega
    have hc := fun k M => cry_ok k M a b (c + BitVec.ofNat 32 i) ((s.drop (64 * i)).take 64) ha hb (by omega)
    rw [hP] at hc
    have hap : T.take (64 * (i + 1)) = T.take (64 * i) ++ (T.drop (64 * i)).take 64 := by rw [Nat.mul_add, List.take_add]
    rw [hap] at ih
    rw [rnd0_some]
    conv => lhs; arg 2; arg 1; rw [s7_b0]
    have t1 : (64 * (i : Int)).toNat = 64 * i := by omega
    have t2 : (64 * (i : Int) + 64).toNat = 64 * i + 64 := by omega
    have t3 : (s.take (min s.length (64 * i + 64))).drop (64 * i) = (s.drop (64 * i)).take 64 := by
      rw [List.drop_take]
      by_cases h2 : s.length ≤ 64 * i + 64
      · rw [Nat.min_eq_left h2, List.take_of_length_le (by rw [List.length_drop]; omega), List.take_of_length_le (by rw [List.length_drop]; omega)]
      · rw [Nat.min_eq_right (by omega), show 64 * i + 64 - 64 * i = 64 by omega]
    have t4 : (64 * ((i : Int) + 1)) = 64 * (i : Int) + 64 := by omega
    simpa (disch := omega) [h1, IntWalk.i64_in, if_pos, t1, t2, t3, t4, hc, e1] using ih

theorem law7 (k : Nat) (M : Mem) (a b : List UInt8) (n : Int) (ha : a.length = 32) (hb : b.length = 12) (c : BitVec 32) (s : List UInt8) :
    callFn SP (k + 7) 7 [.agg (a.map byteAV ++ (b.map byteAV ++ [.int .i64 n])), u32 c, .str s] M = some (.bool true, [], M) := by
  obtain ⟨C, C0, hC, h1, h2, h3, h4, h5, h6, h7, ht, ht0⟩ := keysC a b n ha hb
  obtain ⟨N, e1, e2, e3, e4⟩ : ∃ N : Nat, min (s.length : Int) 600 = N ∧ N ≤ s.length ∧ min s.length 600 = N ∧ N ≤ 600 := ⟨min 600 s.length, by omega, by omega, by omega, by omega⟩
  obtain ⟨S, hS⟩ : ∃ S, s.take N = S := ⟨_, rfl⟩
  have e5 : S.length = N := by rw [← hS, List.length_take]; omega
  have hc := fun k M => cry_ok k M a b c S ha hb (by omega)
  have hlp := l7 k M a b ha hb c S (crypt a b c S) rfl (by omega) ((S.length + 63) / 64) rfl ((S.length + 63) / 64) 0 ((S.length + 63) / 64 + 1) (by omega) (by omega)
  rw [show 64 * 0 = 0 from rfl, List.take_zero, show (64 * ((0 : Nat) : Int)) = 0 from rfl] at hlp
  generalize crypt a b c S = T at *
  rw [hC, call_fn (by rfl) (by simp)]
  simp (disch := omega) [h1, h2, h3, h4, h5, h6, h7, ht, ht0, e1, e2, e3, hS, wakes, hc]
  rw [ev_loop ((S.length + 63) / 64 + 1) (by simp) hlp (by omega)]
  simp (disch := omega) [wakes]

theorem ev_ChachaParts (s : Scope) (args : List AV) (h : ArgsShp s [.st [.arr 32 (.int .u8), .arr 12 (.int .u8), .int .i64], .int .u32, .str] args) : ∃ k M', callFn SP k 7 args [s, mk []] = some (.bool true, [], M') := by
  obtain ⟨_, _, rfl, h1, _, _, rfl, h2, _, _, rfl, h3, rfl⟩ := h
  obtain ⟨a, b, n, ha, hb, rfl⟩ := keys_open h1
  obtain ⟨c, rfl⟩ := ArgShp_u32 h2
  obtain ⟨t, rfl, _⟩ := ArgShp_str h3
  exact ⟨7, _, law7 0 [s, mk []] a b n ha hb c t⟩

end Go.Proofs.Ytemjbimaghdokaa
