/-
  LIB, poly: the document's products.
-/
import Derived.Test.YtpaagjjgmlmngaaLibPJ
set_option maxRecDepth 100000
set_option maxHeartbeats 2000000
set_option linter.unusedSimpArgs false
set_option linter.unusedVariables false
namespace Go.Det.PR
open Go.Det Go.Det.P

theorem bit_eq (B k s : Nat) (hs : s ≤ 7) : B / 256 ^ k % 256 / 2 ^ s % 2 = B / 2 ^ (8 * k + s) % 2 := by
  have e : 2 ^ (8 * k + s) = 256 ^ k * 2 ^ s := by rw [Nat.pow_add, Nat.pow_mul]
  rw [e, ← Nat.div_div_eq_div_mul]
  generalize B / 256 ^ k = y
  match s, hs with
  | 0, _ => omega
  | 1, _ => omega
  | 2, _ => omega
  | 3, _ => omega
  | 4, _ => omega
  | 5, _ => omega
  | 6, _ => omega
  | 7, _ => omega
theorem half (B t : Nat) : B / 2 ^ t = 2 * (B / 2 ^ (t + 1)) + B / 2 ^ t % 2 := by
  rw [Nat.pow_succ, ← Nat.div_div_eq_div_mul]
  omega
/-- The product with the bits from the t-th on. -/
def pq (A B t : Nat) : Nat := A * (B / 2 ^ t) % PP
theorem pq_lt (A B t : Nat) : pq A B t < PP := Nat.mod_lt _ (by decide)
theorem pq_0 (A B t : Nat) (h : B / 2 ^ t % 2 = 0) : (pq A B (t + 1) + pq A B (t + 1)) % PP = pq A B t := by
  rw [pq, pq, ← Nat.add_mod, half B t, h, Nat.add_zero]
  congr 1
  grind
theorem pq_1 (A B t : Nat) (h : B / 2 ^ t % 2 = 1) : ((pq A B (t + 1) + pq A B (t + 1)) % PP + A) % PP = pq A B t := by
  rw [pq, pq, ← Nat.add_mod, half B t, h, Nat.mod_add_mod]
  congr 1
  grind

theorem l34_1 {SP : SProg} {n33 n43 n55 : Nat} (h33 : SP.fn n33 = some (s33 n43)) (h43 : SP.fn n43 = some (s43 n55)) (h55 : SP.fn n55 = some s55) (k : Nat) (M : Mem) (A B : Nat) (hA : A < PP) (z : List AV) (kk : Nat) (hk : kk < 17) (j : Nat) : ∀ (i fu : Nat), i + j = 8 → j < fu →
    fgt a34_1 (rnd0 (some (e34_1 (.ptr (some ⟨M.length, 0, 17, 0⟩)) (.ptr (some ⟨M.length, 4, 17, 0⟩)) (.ptr (some ⟨M.length, 8, 17, 0⟩)) (.ptr (some ⟨M.length, 4000, 17, 0⟩)) (.int .i64 kk) (.int .i64 ((128 / 2 ^ i : Nat) : Int)) (.int .i64 i), mk [(0, .cells ((dig A).map ci) true true), (4, .cells ((dig B).map ci) true true), (8, .cells z true true), (4000, .cells ((dig (pq A B (8 * kk + j))).map ci) true true)] :: M)) k34_1 (callFn SP (k + 3)) (s34_b1 n33) fu) =
      some (.exit 2, x34_1 (.ptr (some ⟨M.length, 0, 17, 0⟩)) (.ptr (some ⟨M.length, 4, 17, 0⟩)) (.ptr (some ⟨M.length, 8, 17, 0⟩)) (.ptr (some ⟨M.length, 4000, 17, 0⟩)) (.int .i64 kk), mk [(0, .cells ((dig A).map ci) true true), (4, .cells ((dig B).map ci) true true), (8, .cells z true true), (4000, .cells ((dig (pq A B (8 * kk))).map ci) true true)] :: M) := by
  have lA := dig_len A
  have lB := dig_len B
  have gB := dig_cell B kk hk
  induction j with
  | zero =>
    intro i fu h hf
    obtain rfl : i = 8 := by omega
    rw [rnd0_some]
    conv => lhs; arg 2; arg 1; rw [s34_b1]
    rw [Nat.add_zero]
    generalize dig A = DA
    generalize dig B = DB
    generalize dig (pq A B (8 * kk)) = DC
    simp
  | succ j ih0 =>
    intro i fu h hf
    obtain ⟨fu, rfl⟩ : ∃ m, fu = m + 1 := ⟨fu - 1, by omega⟩
    have hi : (i : Int) < 8 := by omega
    have hi2 : i < 8 := by omega
    have ih := ih0 (i + 1) fu (by omega) (by omega)
    have hp : (128 : Nat) / 2 ^ i = 2 ^ j := by
      rw [show (128 : Nat) = 2 ^ i * 2 ^ j by rw [← Nat.pow_add, show i + j = 7 by omega]]
      exact Nat.mul_div_cancel_left _ (Nat.pow_pos (by omega))
    have hp2 : (128 : Nat) / 2 ^ (i + 1) = 2 ^ j / 2 := by rw [Nat.pow_succ, ← Nat.div_div_eq_div_mul, hp]
    have hpp : 0 < 2 ^ j := Nat.pow_pos (by omega)
    have hpl : 2 ^ j ≤ 128 := by rw [← hp]; exact Nat.div_le_self _ _
    rw [hp2] at ih
    rw [hp]
    have hbit := bit_eq B kk j (by omega)
    have hx := pq_lt A B (8 * kk + j + 1)
    have s1 := fun M => sum_ev h33 h43 h55 k M (pq A B (8 * kk + j + 1)) (pq A B (8 * kk + j + 1)) (by omega)
    have s2 := fun M => sum_ev h33 h43 h55 k M ((pq A B (8 * kk + j + 1) + pq A B (8 * kk + j + 1)) % PP) A (by have := Nat.mod_lt (pq A B (8 * kk + j + 1) + pq A B (8 * kk + j + 1)) (show PP > 0 by decide); omega)
    have t1 := pq_0 A B (8 * kk + j)
    have t2 := pq_1 A B (8 * kk + j)
    have lO := dig_len (pq A B (8 * kk + j + 1))
    have lN := dig_len ((pq A B (8 * kk + j + 1) + pq A B (8 * kk + j + 1)) % PP)
    have lM := dig_len (pq A B (8 * kk + j))
    have hT : ∀ D : List Nat, D.length = 17 → (D.map ci).take 17 = D.map ci := fun D h => List.take_of_length_le (by simp [h])
    have hD : ∀ D : List Nat, D.length = 17 → (D.map ci).drop 17 = [] := fun D h => List.drop_of_length_le (by simp [h])
    rw [show 8 * kk + (j + 1) = 8 * kk + j + 1 by omega]
    have xb : B / 256 ^ kk % 256 < 256 := Nat.mod_lt _ (by omega)
    obtain ⟨x, hx0⟩ : ∃ x, B / 256 ^ kk % 256 = x := ⟨_, rfl⟩
    rw [hx0] at hbit gB xb
    obtain ⟨w, hw⟩ : ∃ w, 2 ^ j = w := ⟨_, rfl⟩
    rw [hw] at hbit hpp hpl ih ⊢
    have hq : x / w < 256 := Nat.lt_of_le_of_lt (Nat.div_le_self _ _) xb
    obtain ⟨y, hy⟩ : ∃ y, x / w = y := ⟨_, rfl⟩
    have u1 : ((x : Int)).tdiv (w : Int) = (y : Int) := by rw [Int.tdiv_eq_ediv_of_nonneg (by omega), ← hy]; rfl
    rw [hy] at hq hbit
    have u2 : ((y : Int)).tmod 2 = ((y % 2 : Nat) : Int) := by rw [Int.tmod_eq_emod_of_nonneg (by omega)]; omega
    have u3 : ((w : Int)).tdiv 2 = ((w / 2 : Nat) : Int) := by rw [Int.tdiv_eq_ediv_of_nonneg (by omega)]; omega
    have u4 : ¬ (w : Int) = 0 := by omega
    have u5 : ¬ w = 0 := by omega
    simp only [ci] at gB
    have gB2 : (List.map (fun n : Nat => AV.int .i64 (n : Int)) (dig B))[kk]? = some (.int .i64 x) := gB
    rw [rnd0_some]
    conv => lhs; arg 2; arg 1; rw [s34_b1]
    by_cases hb : y % 2 = 1
    · have hb2 : B / 2 ^ (8 * kk + j) % 2 = 1 := by rw [← hbit]; exact hb
      have v1 : ((y % 2 : Nat) : Int) = 1 := by omega
      rw [v1] at u2
      rw [t2 hb2] at s2
      generalize dig A = DA at *
      generalize dig B = DB at *
      generalize dig (pq A B (8 * kk + j + 1)) = DO at *
      generalize dig ((pq A B (8 * kk + j + 1) + pq A B (8 * kk + j + 1)) % PP) = DN at *
      generalize dig (pq A B (8 * kk + j)) = DM at *
      have gB3 : (DB.map ci)[kk]? = some (.int .i64 x) := gB
      simpa (disch := first | omega | assumption) [-List.getElem?_map, -List.map_set, -Int.natCast_ediv, hi, lA, lB, lO, lN, lM, gB3, s1, s2, hT, hD, takeVL_ci, u1, u2, u3, u4, u5, if_pos, IntWalk.i64_in] using ih
    · have hb1 : y % 2 = 0 := by omega
      have hb2 : B / 2 ^ (8 * kk + j) % 2 = 0 := by rw [← hbit]; exact hb1
      have v1 : ((y % 2 : Nat) : Int) = 0 := by omega
      rw [v1] at u2
      rw [t1 hb2] at s1
      generalize dig A = DA at *
      generalize dig B = DB at *
      generalize dig (pq A B (8 * kk + j + 1)) = DO at *
      generalize dig (pq A B (8 * kk + j)) = DM at *
      have gB3 : (DB.map ci)[kk]? = some (.int .i64 x) := gB
      simpa (disch := first | omega | assumption) [-List.getElem?_map, -List.map_set, -Int.natCast_ediv, hi, lA, lB, lO, lM, gB3, s1, hT, hD, takeVL_ci, u1, u2, u3, u4, u5, if_pos, IntWalk.i64_in] using ih

theorem l34_0 {SP : SProg} {n33 n43 n55 : Nat} (h33 : SP.fn n33 = some (s33 n43)) (h43 : SP.fn n43 = some (s43 n55)) (h55 : SP.fn n55 = some s55) (k : Nat) (M : Mem) (A B : Nat) (hA : A < PP) (z : List AV) (j : Nat) : ∀ (fu : Nat), j ≤ 17 → j < fu →
    fgt a34_0 (rnd0 (some (e34_0 (.ptr (some ⟨M.length, 0, 17, 0⟩)) (.ptr (some ⟨M.length, 4, 17, 0⟩)) (.ptr (some ⟨M.length, 8, 17, 0⟩)) (.ptr (some ⟨M.length, 4000, 17, 0⟩)) (.int .i64 ((j : Int) - 1)), mk [(0, .cells ((dig A).map ci) true true), (4, .cells ((dig B).map ci) true true), (8, .cells z true true), (4000, .cells ((dig (pq A B (8 * j))).map ci) true true)] :: M)) k34_0 (callFn SP (k + 3)) (s34_b0 n33) fu) =
      some (.exit 0, x34_0 (.ptr (some ⟨M.length, 8, 17, 0⟩)) (.ptr (some ⟨M.length, 4000, 17, 0⟩)), mk [(8, .cells z true true), (4000, .cells ((dig (pq A B 0)).map ci) true true)] :: M) := by
  induction j with
  | zero =>
    intro fu h hf
    rw [rnd0_some]
    conv => lhs; arg 2; arg 1; rw [s34_b0]
    rw [Nat.mul_zero]
    generalize dig A = DA
    generalize dig B = DB
    generalize dig (pq A B 0) = DC
    simp
  | succ j ih0 =>
    intro fu h hf
    obtain ⟨fu, rfl⟩ : ∃ m, fu = m + 1 := ⟨fu - 1, by omega⟩
    have ih := ih0 fu (by omega) (by omega)
    have q := l34_1 h33 h43 h55 k M A B hA z j (by omega) 8 0 9 rfl (by omega)
    rw [show 8 * j + 8 = 8 * (j + 1) by omega] at q
    have e0 : (((j + 1 : Nat) : Int) - 1) = (j : Int) := by omega
    rw [e0]
    generalize dig A = DA at *
    generalize dig B = DB at *
    generalize dig (pq A B (8 * (j + 1))) = DO at *
    generalize dig (pq A B (8 * j)) = DN at *
    generalize dig (pq A B 0) = DZ at *
    rw [rnd0_some]
    conv => lhs; arg 2; arg 1; rw [s34_b0]
    simp (disch := omega) [if_pos]
    rw [ev_loop 9 (by simp) q (by omega)]
    simpa (disch := omega) [IntWalk.i64_in] using ih

theorem product_ev {SP : SProg} {n33 n34 n43 n55 : Nat} (h34 : SP.fn n34 = some (s34 n33)) (h33 : SP.fn n33 = some (s33 n43)) (h43 : SP.fn n43 = some (s43 n55)) (h55 : SP.fn n55 = some s55) (k : Nat) (M : Mem) (A B : Nat) (hA : A < PP) (hB : B < 256 ^ 17) :
    callFn SP (k + 4) n34 [.agg ((dig A).map ci), .agg ((dig B).map ci)] M = some (.agg ((dig (A * B % PP)).map ci), [], M) := by
  have q := l34_0 h33 h43 h55 k M A B hA [.int .i64 0, .int .i64 0, .int .i64 0, .int .i64 0, .int .i64 0, .int .i64 0, .int .i64 0, .int .i64 0, .int .i64 0, .int .i64 0, .int .i64 0, .int .i64 0, .int .i64 0, .int .i64 0, .int .i64 0, .int .i64 0, .int .i64 0] 17 18 (by omega) (by omega)
  have e1 : pq A B (8 * 17) = 0 := by
    rw [pq, show (2 : Nat) ^ (8 * 17) = 256 ^ 17 by decide, Nat.div_eq_of_lt hB, Nat.mul_zero]; rfl
  have e2 : pq A B 0 = A * B % PP := by rw [pq, Nat.pow_zero, Nat.div_one]
  rw [e1, e2, show (dig 0).map ci = [.int .i64 0, .int .i64 0, .int .i64 0, .int .i64 0, .int .i64 0, .int .i64 0, .int .i64 0, .int .i64 0, .int .i64 0, .int .i64 0, .int .i64 0, .int .i64 0, .int .i64 0, .int .i64 0, .int .i64 0, .int .i64 0, .int .i64 0] from rfl, show (((17 : Nat) : Int) - 1) = 16 from rfl] at q
  have lA := dig_len A
  have lB := dig_len B
  have lC := dig_len (A * B % PP)
  have hT : ((dig (A * B % PP)).map ci).take 17 = (dig (A * B % PP)).map ci := List.take_of_length_le (by simp [lC])
  generalize dig A = DA at *
  generalize dig B = DB at *
  generalize dig (A * B % PP) = DC at *
  rw [call_fn (h34.trans rfl) (by simp)]
  simp (disch := omega) [lA, lB]
  rw [ev_loop 18 (by simp) q (by omega)]
  simp (disch := omega) [lC, hT, expL_ci]
end Go.Det.PR
