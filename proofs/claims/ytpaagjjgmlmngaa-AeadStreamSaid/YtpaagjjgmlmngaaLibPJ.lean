/-
  LIB, poly: the document's sums and products.
-/
import Derived.Test.YtpaagjjgmlmngaaLibPI
set_option maxRecDepth 100000
set_option maxHeartbeats 2000000
set_option linter.unusedSimpArgs false
set_option linter.unusedVariables false
namespace Go.Det.PR
open Go.Det Go.Det.P

/-! ### the number itself -/
theorem less0 {SP : SProg} {n55 : Nat} (h55 : SP.fn n55 = some s55) (k : Nat) (M : Mem) (m : Nat) (hm : m < PP) (z : List AV) (hz : z.length = 17) (i : Nat) (hi : i < 64) (n : Nat) :
    fgt a43_0 (rnd0 (some (e43_0 (.ptr (some ⟨M.length, 0, 17, 0⟩)) (.ptr (some ⟨M.length, 4, 17, 0⟩)) (.int .i64 i), mk [(0, .cells ((dig m).map ci) true true), (4, .cells z true true)] :: M)) k43_0 (callFn SP (k + 1)) (s43_b0 n55) n) =
      some (.ret, x43_0 (.ptr (some ⟨M.length, 0, 17, 0⟩)) (.ptr (some ⟨M.length, 4, 17, 0⟩)), mk [(0, .cells ((dig m).map ci) true true), (4, .cells ((dig m).map ci) true true)] :: M) := by
  have hb := fun M => below_ev h55 k M m (Nat.lt_trans hm (by decide))
  rw [decide_eq_true hm] at hb
  have hl := dig_len m
  have ht : ((dig m).map ci).take 17 = (dig m).map ci := List.take_of_length_le (by simp [hl])
  have hd : z.drop 17 = [] := List.drop_of_length_le (by omega)
  have hi2 : (i : Int) < 64 := by omega
  generalize dig m = D at *
  rw [rnd0_some]
  conv => lhs; arg 2; arg 1; rw [s43_b0]
  simp (disch := omega) [hi2, hb, ht, hd, hl, hz, takeVL_ci, if_pos]

theorem less_lp {SP : SProg} {n55 : Nat} (h55 : SP.fn n55 = some s55) (k : Nat) (M : Mem) (m : Nat) (hm : m < 2 * PP) (z : List AV) (hz : z.length = 17) (n : Nat) :
    fgt a43_0 (rnd0 (some (e43_0 (.ptr (some ⟨M.length, 0, 17, 0⟩)) (.ptr (some ⟨M.length, 4, 17, 0⟩)) (.int .i64 0), mk [(0, .cells ((dig m).map ci) true true), (4, .cells z true true)] :: M)) k43_0 (callFn SP (k + 1)) (s43_b0 n55) (n + 1)) =
      some (.ret, x43_0 (.ptr (some ⟨M.length, 0, 17, 0⟩)) (.ptr (some ⟨M.length, 4, 17, 0⟩)), mk [(0, .cells ((dig (m % PP)).map ci) true true), (4, .cells ((dig (m % PP)).map ci) true true)] :: M) := by
  by_cases h : m < PP
  · rw [Nat.mod_eq_of_lt h]
    exact less0 h55 k M m h z hz 0 (by omega) (n + 1)
  · have hge : PP ≤ m := by omega
    have hmod : m % PP = m - PP := by
      rw [Nat.mod_eq_sub_mod hge, Nat.mod_eq_of_lt (by omega)]
    rw [hmod]
    have hb := fun M => below_ev h55 k M m (Nat.lt_trans hm (by decide))
    rw [decide_eq_false h] at hb
    have q := l43_1 (callFn SP (k + 1)) M m hge z 0 17 0 18 0 rfl (by omega) (by unfold bor; rw [Nat.pow_zero, Nat.mod_one, Nat.mod_one, if_neg (by omega)])
    rw [lsd_zero] at q
    have q2 := less0 h55 k M (m - PP) (by omega) z hz 1 (by omega) n
    have hl := dig_len m
    have ht : ((dig m).map ci).take 17 = (dig m).map ci := List.take_of_length_le (by simp [hl])
    generalize dig m = D at *
    generalize dig (m - PP) = D2 at *
    rw [rnd0_some]
    conv => lhs; arg 2; arg 1; rw [s43_b0]
    simp (disch := omega) [hb, ht, hl, hz, takeVL_ci, if_pos]
    rw [ev_loop 18 (by simp) q (by omega)]
    simpa (disch := omega) [show IntKind.wrap .i64 1 = 1 from rfl] using q2

theorem less_ev {SP : SProg} {n43 n55 : Nat} (h43 : SP.fn n43 = some (s43 n55)) (h55 : SP.fn n55 = some s55) (k : Nat) (M : Mem) (m : Nat) (hm : m < 2 * PP) :
    callFn SP (k + 2) n43 [.agg ((dig m).map ci)] M = some (.agg ((dig (m % PP)).map ci), [], M) := by
  have q := less_lp h55 k M m hm [.int .i64 0, .int .i64 0, .int .i64 0, .int .i64 0, .int .i64 0, .int .i64 0, .int .i64 0, .int .i64 0, .int .i64 0, .int .i64 0, .int .i64 0, .int .i64 0, .int .i64 0, .int .i64 0, .int .i64 0, .int .i64 0, .int .i64 0] rfl 1
  have hl := dig_len m
  have hl2 := dig_len (m % PP)
  have ht : ((dig (m % PP)).map ci).take 17 = (dig (m % PP)).map ci := List.take_of_length_le (by simp [hl2])
  generalize dig m = D at *
  generalize dig (m % PP) = D2 at *
  rw [call_fn (h43.trans rfl) (by simp)]
  simp (disch := omega) [hl]
  rw [ev_loop 2 (by simp) q (by omega)]
  simp (disch := omega) [hl2, ht, expL_ci]

/-! ### sums -/
theorem sum_ev {SP : SProg} {n33 n43 n55 : Nat} (h33 : SP.fn n33 = some (s33 n43)) (h43 : SP.fn n43 = some (s43 n55)) (h55 : SP.fn n55 = some s55) (k : Nat) (M : Mem) (m n : Nat) (h : m + n < 2 * PP) :
    callFn SP (k + 3) n33 [.agg ((dig m).map ci), .agg ((dig n).map ci)] M = some (.agg ((dig ((m + n) % PP)).map ci), [], M) := by
  have q := l33 (callFn SP (k + 2)) M m n [.int .i64 0, .int .i64 0, .int .i64 0, .int .i64 0, .int .i64 0, .int .i64 0, .int .i64 0, .int .i64 0, .int .i64 0, .int .i64 0, .int .i64 0, .int .i64 0, .int .i64 0, .int .i64 0, .int .i64 0, .int .i64 0, .int .i64 0] 17 0 18 0 rfl (by omega) (by rw [Nat.pow_zero, Nat.mod_one, Nat.mod_one])
  rw [sd_zero] at q
  have hle := fun M => less_ev h43 h55 k M (m + n) h
  have hl := dig_len m
  have hl2 := dig_len n
  have hl3 := dig_len (m + n)
  have hl4 := dig_len ((m + n) % PP)
  have ht : ((dig (m + n)).map ci).take 17 = (dig (m + n)).map ci := List.take_of_length_le (by simp [hl3])
  have ht2 : ((dig ((m + n) % PP)).map ci).take 17 = (dig ((m + n) % PP)).map ci := List.take_of_length_le (by simp [hl4])
  generalize dig m = D at *
  generalize dig n = D2 at *
  generalize dig (m + n) = D3 at *
  generalize dig ((m + n) % PP) = D4 at *
  rw [call_fn (h33.trans rfl) (by simp)]
  simp (disch := omega) [hl, hl2]
  rw [ev_loop 18 (by simp) q (by omega)]
  simp (disch := omega) [hl3, hl4, ht, ht2, hle, expL_ci, takeVL_ci]
end Go.Det.PR
