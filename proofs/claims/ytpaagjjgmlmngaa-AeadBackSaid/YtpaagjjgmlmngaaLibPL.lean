/-
  LIB, poly: the document's tag.
-/
import Derived.Test.YtpaagjjgmlmngaaLibPK
set_option maxRecDepth 100000
set_option maxHeartbeats 2000000
set_option linter.unusedSimpArgs false
set_option linter.unusedVariables false
namespace Go.Det.PR
open Go.Det Go.Det.P

/-- The first i bytes of a text, as a number's. -/
def rp (H : List UInt8) (i : Nat) : List Nat := tab (fun p => if p < i then (nth H p).toNat else 0) 17
theorem rp_len (H : List UInt8) (i : Nat) : (rp H i).length = 17 := by simp [rp]
theorem rp_zero (H : List UInt8) : (rp H 0).map ci = [.int .i64 0, .int .i64 0, .int .i64 0, .int .i64 0, .int .i64 0, .int .i64 0, .int .i64 0, .int .i64 0, .int .i64 0, .int .i64 0, .int .i64 0, .int .i64 0, .int .i64 0, .int .i64 0, .int .i64 0, .int .i64 0, .int .i64 0] := rfl
theorem rp_set (H : List UInt8) (i : Nat) (h : i < 17) : (rp H i).set i (nth H i).toNat = rp H (i + 1) := by
  refine nth_ext (by simp [rp]) fun k hk => ?_
  simp [rp] at hk
  rw [nth_set _ _ _ _ (by rw [rp_len]; omega), rp, nth_tab _ _ _ hk, rp, nth_tab _ _ _ hk]
  by_cases h1 : i = k
  · subst h1; simp
  · rw [if_neg h1]
    by_cases h2 : k < i
    · rw [if_pos h2, if_pos (by omega)]
    · rw [if_neg h2, if_neg (by omega)]
theorem rp_all (H : List UInt8) (h : H.length = 16) : rp H 16 = dig (le H) := tab_congr _ _ _ fun p hp => by
  by_cases h1 : p < 16
  · rw [if_pos h1, le_nth]
  · have hl := le_lt H
    rw [h] at hl
    rw [if_neg h1, show p = 16 by omega, Nat.div_eq_of_lt hl]
theorem rp_ck (t : List UInt8) : (rp t (min 16 t.length)).set (min 16 t.length) 1 = dig (ckN t) := by
  have hle := le_lt (t.take 16)
  rw [List.length_take] at hle
  have hN : min 16 t.length ≤ 16 := Nat.min_le_left _ _
  rw [ckN]
  obtain ⟨N, hN0⟩ : ∃ N, min 16 t.length = N := ⟨_, rfl⟩
  rw [hN0] at hle hN ⊢
  refine nth_ext (by simp [rp, dig]) fun k hk => ?_
  simp [rp] at hk
  rw [nth_set _ _ _ _ (by rw [rp_len]; omega), dig, nth_tab _ _ _ hk]
  have hpos : ∀ x : Nat, 0 < 256 ^ x := fun x => Nat.pow_pos (by omega)
  by_cases h1 : N = k
  · subst h1
    rw [if_pos rfl, Nat.add_div_right _ (hpos N), Nat.div_eq_of_lt hle]
  · rw [if_neg h1, rp, nth_tab _ _ _ hk]
    by_cases h2 : k < N
    · rw [if_pos h2]
      have e : 256 ^ N = 256 ^ k * (256 * 256 ^ (N - k - 1)) := by rw [← Nat.pow_succ', ← Nat.pow_add, show k + (N - k - 1 + 1) = N by omega]
      rw [e, Nat.add_mul_div_left _ _ (hpos k), Nat.add_mul_mod_self_left, ← le_nth]
      have : nth (t.take 16) k = nth t k := by simp [nth, List.getD, List.getElem?_take, show k < 16 by omega]
      rw [this]
    · rw [if_neg h2]
      have h3 : 256 ^ (N + 1) ≤ 256 ^ k := Nat.pow_le_pow_right (by omega) (by omega)
      rw [Nat.pow_succ] at h3
      have := hpos N
      rw [Nat.div_eq_of_lt (by omega)]

theorem l20_0 (C : Det.Calls) (M : Mem) (key s H : List UInt8) (hH : H.length = 16) (z : List Nat) (j : Nat) : ∀ (i fu : Nat), i + j = 16 → j < fu →
    fgt a20_0 (rnd0 (some (e20_0 (.str key) (.str s) (.str H) (.ptr (some ⟨M.length, 24000, 17, 0⟩)) (.ptr (some ⟨M.length, 24004, 17, 0⟩)) (.int .i64 i), mk [(24000, .cells ((rp H i).map ci) true true), (24004, .cells (z.map ci) true true)] :: M)) k20_0 C s20_b0 fu) =
      some (.exit 0, x20_0 (.str key) (.str s) (.ptr (some ⟨M.length, 24000, 17, 0⟩)) (.ptr (some ⟨M.length, 24004, 17, 0⟩)), mk [(24000, .cells ((dig (le H)).map ci) true true), (24004, .cells (z.map ci) true true)] :: M) := by
  induction j with
  | zero =>
    intro i fu h hf
    obtain rfl : i = 16 := by omega
    rw [rnd0_some]
    conv => lhs; arg 2; arg 1; rw [s20_b0]
    rw [rp_all H hH]
    generalize dig (le H) = Z
    simp
  | succ j ih0 =>
    intro i fu h hf
    obtain ⟨fu, rfl⟩ : ∃ m, fu = m + 1 := ⟨fu - 1, by omega⟩
    have hi : (i : Int) < 16 := by omega
    have hi2 : i < 17 := by omega
    have ih := ih0 (i + 1) fu (by omega) (by omega)
    have hl := rp_len H i
    have hs : ((rp H i).map ci).set i (ci (nth H i).toNat) = (rp H (i + 1)).map ci := by rw [← rp_set H i hi2, List.map_set]
    generalize rp H (i + 1) = Z2 at *
    generalize rp H i = Z at *
    simp only [ci] at hs
    rw [rnd0_some]
    conv => lhs; arg 2; arg 1; rw [s20_b0]
    simpa (disch := omega) [-List.map_set, hi, hi2, hl, hs, hH, byteAt_lt, if_pos, IntWalk.i64_in] using ih

theorem l20_2 (C : Det.Calls) (M : Mem) (key s : List UInt8) (i : Nat) (hi : i < s.length) (hs : s.length ≤ 65536) (R A : List Nat) (N : Nat) (hN : N = min 16 (s.drop i).length) (j : Nat) : ∀ (n fu : Nat), n + j = N → j < fu →
    fgt a20_2 (rnd0 (some (e20_2 (.str key) (.str s) (.ptr (some ⟨M.length, 24000, 17, 0⟩)) (.ptr (some ⟨M.length, 24004, 17, 0⟩)) (.int .i64 i) (.ptr (some ⟨M.length, 56000, 17, 0⟩)) (.int .i64 n), mk [(24000, .cells (R.map ci) true true), (24004, .cells (A.map ci) true true), (56000, .cells ((rp (s.drop i) n).map ci) true true)] :: M)) k20_2 C s20_b2 fu) =
      some (.exit 4, x20_2 (.str key) (.str s) (.ptr (some ⟨M.length, 24000, 17, 0⟩)) (.ptr (some ⟨M.length, 24004, 17, 0⟩)) (.int .i64 i) (.ptr (some ⟨M.length, 56000, 17, 0⟩)) (.int .i64 N), mk [(24000, .cells (R.map ci) true true), (24004, .cells (A.map ci) true true), (56000, .cells ((rp (s.drop i) N).map ci) true true)] :: M) := by
  rw [List.length_drop] at hN
  induction j with
  | zero =>
    intro n fu h hf
    obtain rfl : n = N := by omega
    rw [rnd0_some]
    conv => lhs; arg 2; arg 1; rw [s20_b2]
    generalize rp (s.drop i) n = Z
    by_cases h16 : n = 16
    · have h1 : ¬ (n : Int) < 16 := by omega
      simp [h1]
    · have h1 : (n : Int) < 16 := by omega
      have h2 : ¬ (i : Int) + (n : Int) < s.length := by omega
      simp (disch := omega) [h1, h2, IntWalk.i64_in]
  | succ j ih0 =>
    intro n fu h hf
    obtain ⟨fu, rfl⟩ : ∃ m, fu = m + 1 := ⟨fu - 1, by omega⟩
    have hi1 : (n : Int) < 16 := by omega
    have hi2 : n < 17 := by omega
    have h2 : (i : Int) + (n : Int) < s.length := by omega
    have t0 : ((i : Int) + (n : Int)).toNat = i + n := by omega
    have ih := ih0 (n + 1) fu (by omega) (by omega)
    have hl := rp_len (s.drop i) n
    have hnd : nth (s.drop i) n = nth s (i + n) := by simp [nth, List.getD, List.getElem?_drop]
    have hst : ((rp (s.drop i) n).map ci).set n (ci (nth s (i + n)).toNat) = (rp (s.drop i) (n + 1)).map ci := by rw [← rp_set (s.drop i) n hi2, List.map_set, hnd]
    generalize rp (s.drop i) (n + 1) = Z2 at *
    generalize rp (s.drop i) n = Z at *
    simp only [ci] at hst
    rw [rnd0_some]
    conv => lhs; arg 2; arg 1; rw [s20_b2]
    simpa (disch := omega) [-List.map_set, hi1, hi2, h2, t0, hl, hst, byteAt_lt, if_pos, IntWalk.i64_in] using ih

theorem l20_1 {SP : SProg} {n33 n34 n43 n55 : Nat} (h34 : SP.fn n34 = some (s34 n33)) (h33 : SP.fn n33 = some (s33 n43)) (h43 : SP.fn n43 = some (s43 n55)) (h55 : SP.fn n55 = some s55) (k : Nat) (M : Mem) (key s : List UInt8) (hs : s.length ≤ 65536) (R : Nat) (hR : R < 256 ^ 17) (j : Nat) : ∀ (i fu a : Nat), s.length ≤ i + 16 * j → j < fu → a < PP → i ≤ 65552 →
    fgt a20_1 (rnd0 (some (e20_1 (.str key) (.str s) (.ptr (some ⟨M.length, 24000, 17, 0⟩)) (.ptr (some ⟨M.length, 24004, 17, 0⟩)) (.int .i64 i), mk [(24000, .cells ((dig R).map ci) true true), (24004, .cells ((dig a).map ci) true true)] :: M)) k20_1 (callFn SP (k + 4)) (s20_b1 n33 n34) fu) =
      some (.exit 2, x20_1 (.str key) (.ptr (some ⟨M.length, 24004, 17, 0⟩)), mk [(24004, .cells ((dig (accN R j (s.drop i) a)).map ci) true true)] :: M) := by
  induction j with
  | zero =>
    intro i fu a h hf ha hi
    have h1 : ¬ (i : Int) < s.length := by omega
    rw [rnd0_some]
    conv => lhs; arg 2; arg 1; rw [s20_b1]
    rw [accN]
    generalize dig R = DR
    generalize dig a = DA
    simp [h1]
  | succ j ih0 =>
    intro i fu a h hf ha hi
    obtain ⟨fu, rfl⟩ : ∃ m, fu = m + 1 := ⟨fu - 1, by omega⟩
    by_cases h0 : i < s.length
    · have h1 : (i : Int) < s.length := by omega
      have hne : s.drop i ≠ [] := fun h => by have := congrArg List.length h; rw [List.length_drop, List.length_nil] at this; omega
      rw [accN, if_neg hne, List.drop_drop]
      have ih := ih0 (i + 16) fu ((a + ckN (s.drop i)) * R % PP) (by omega) (by omega) (Nat.mod_lt _ (by decide)) (by omega)
      have hck := ckN_lt (s.drop i)
      have s1 := fun M => sum_ev h33 h43 h55 (k + 1) M a (ckN (s.drop i)) (by
        have e : (2 : Nat) ^ 129 ≤ PP := by decide
        omega)
      have hlt := Nat.mod_lt (a + ckN (s.drop i)) (show PP > 0 by decide)
      have p1 := fun M => product_ev h34 h33 h43 h55 k M ((a + ckN (s.drop i)) % PP) R hlt hR
      rw [Nat.mod_mul_mod] at p1
      obtain ⟨N, hN⟩ : ∃ N, min 16 (s.drop i).length = N := ⟨_, rfl⟩
      have q := l20_2 (callFn SP (k + 4)) M key s i h0 hs (dig R) (dig a) N hN.symm N 0 17 (by omega) (by omega)
      have hset : ((rp (s.drop i) N).map ci).set N (ci 1) = (dig (ckN (s.drop i))).map ci := by rw [← hN, ← rp_ck, List.map_set]
      have hN2 : N < 17 := by omega
      rw [rp_zero] at q
      have lR := dig_len R
      have la := dig_len a
      have lc := dig_len (ckN (s.drop i))
      have l1 := dig_len ((a + ckN (s.drop i)) % PP)
      have l2 := dig_len ((a + ckN (s.drop i)) * R % PP)
      have lr := rp_len (s.drop i) N
      have hT : ∀ D : List Nat, D.length = 17 → (D.map ci).take 17 = D.map ci := fun D h => List.take_of_length_le (by simp [h])
      have hD : ∀ D : List Nat, D.length = 17 → (D.map ci).drop 17 = [] := fun D h => List.drop_of_length_le (by simp [h])
      generalize dig R = DR at *
      generalize dig a = DA at *
      generalize dig (ckN (s.drop i)) = DC at *
      generalize dig ((a + ckN (s.drop i)) % PP) = D1 at *
      generalize dig ((a + ckN (s.drop i)) * R % PP) = D2 at *
      generalize rp (s.drop i) N = DB at *
      have hset2 : (DB.map ci).set N (.int .i64 1) = DC.map ci := hset
      rw [rnd0_some]
      conv => lhs; arg 2; arg 1; rw [s20_b1]
      simp (disch := omega) [h1, if_pos]
      rw [ev_loop 17 (by simp) q (by omega)]
      simpa (disch := first | omega | assumption) [-List.map_set, hN2, hset2, lr, lR, la, lc, l1, l2, hT, hD, s1, p1, takeVL_ci, if_pos, IntWalk.i64_in] using ih
    · have h1 : ¬ (i : Int) < s.length := by omega
      rw [accN, if_pos (List.drop_of_length_le (by omega))]
      rw [rnd0_some]
      conv => lhs; arg 2; arg 1; rw [s20_b1]
      generalize dig R = DR
      generalize dig a = DA
      simp [h1]

end Go.Det.PR
