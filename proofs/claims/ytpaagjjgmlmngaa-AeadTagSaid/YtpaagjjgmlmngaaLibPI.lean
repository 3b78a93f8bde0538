/-
  LIB, poly: the document's numbers: less, sums, products.
-/
import Derived.Test.YtpaagjjgmlmngaaLibPH
set_option maxRecDepth 100000
set_option maxHeartbeats 2000000
set_option linter.unusedSimpArgs false
set_option linter.unusedVariables false
namespace Go.Det.PR
open Go.Det Go.Det.P

/-! ### the prime taken away -/
theorem pdig : ∀ k, k < 17 → PP / 256 ^ k % 256 = if k = 0 then 251 else if k = 16 then 3 else 255 := by decide
/-- What is borrowed. -/
def bor (m k : Nat) : Nat := if m % 256 ^ k < PP % 256 ^ k then 1 else 0

theorem dig_sub (m k : Nat) (h : PP ≤ m) : (m - PP) / 256 ^ k % 256 = (if m / 256 ^ k % 256 < PP / 256 ^ k % 256 + bor m k then m / 256 ^ k % 256 + 256 - (PP / 256 ^ k % 256 + bor m k) else m / 256 ^ k % 256 - (PP / 256 ^ k % 256 + bor m k)) ∧
    bor m (k + 1) = (if m / 256 ^ k % 256 < PP / 256 ^ k % 256 + bor m k then 1 else 0) := by
  have hX : 0 < 256 ^ k := Nat.pow_pos (by omega)
  have e1 : m % 256 ^ (k + 1) = m % 256 ^ k + 256 ^ k * (m / 256 ^ k % 256) := by rw [Nat.pow_succ, Nat.mod_mul]
  have e2 : PP % 256 ^ (k + 1) = PP % 256 ^ k + 256 ^ k * (PP / 256 ^ k % 256) := by rw [Nat.pow_succ, Nat.mod_mul]
  have d1 := Nat.div_add_mod m (256 ^ k)
  have d2 := Nat.div_add_mod PP (256 ^ k)
  have m1 := Nat.mod_lt m hX
  have m2 := Nat.mod_lt PP hX
  have hb : bor m k ≤ 1 := by unfold bor; split <;> omega
  have hdiv : (m - PP) / 256 ^ k = m / 256 ^ k - PP / 256 ^ k - bor m k ∧ PP / 256 ^ k + bor m k ≤ m / 256 ^ k := by
    unfold bor
    generalize 256 ^ k = X at *
    have hle : PP / X ≤ m / X := Nat.div_le_div_right h
    generalize PP / X = qp at *
    generalize m / X = qm at *
    generalize hmx : m % X = mx at *
    generalize hpx : PP % X = px at *
    obtain ⟨t, rfl⟩ : ∃ t, qm = qp + t := ⟨qm - qp, by omega⟩
    rw [Nat.mul_add] at d1
    by_cases hlt : mx < px
    · rw [if_pos hlt]
      have ht : 0 < t := by
        rcases Nat.eq_zero_or_pos t with h0 | h0
        · rw [h0, Nat.mul_zero] at d1; omega
        · exact h0
      obtain ⟨u, rfl⟩ : ∃ u, t = u + 1 := ⟨t - 1, by omega⟩
      rw [Nat.mul_add, Nat.mul_one] at d1
      refine ⟨?_, by omega⟩
      rw [show m - PP = (X + mx - px) + X * u by omega, Nat.add_mul_div_left _ _ hX, Nat.div_eq_of_lt (by omega)]
      omega
    · rw [if_neg hlt]
      refine ⟨?_, by omega⟩
      rw [show m - PP = (mx - px) + X * t by omega, Nat.add_mul_div_left _ _ hX, Nat.div_eq_of_lt (by omega)]
      omega
  refine ⟨?_, ?_⟩
  · rw [hdiv.1]
    have := hdiv.2
    generalize m / 256 ^ k = qm at *
    generalize PP / 256 ^ k = qp at *
    generalize bor m k = b at *
    split <;> omega
  · rw [bor, e1, e2]
    unfold bor
    generalize 256 ^ k = X at *
    generalize m / X % 256 = x at *
    generalize PP / X % 256 = p at *
    generalize m % X = mx at *
    generalize PP % X = px at *
    rcases Nat.lt_trichotomy x p with hxp | hxp | hxp
    · obtain ⟨t, rfl⟩ : ∃ t, p = x + 1 + t := ⟨p - x - 1, by omega⟩
      rw [Nat.mul_add, Nat.mul_add, Nat.mul_one, if_pos (by omega), if_pos (by omega)]
    · subst hxp
      by_cases hlt : mx < px
      · rw [if_pos (by omega), if_pos hlt, if_pos (by omega)]
      · rw [if_neg (by omega), if_neg hlt, if_neg (by omega)]
    · obtain ⟨t, rfl⟩ : ∃ t, x = p + 1 + t := ⟨x - p - 1, by omega⟩
      have : (if mx < px then 1 else 0) ≤ 1 := by split <;> omega
      rw [Nat.mul_add, Nat.mul_add, Nat.mul_one, if_neg (by omega), if_neg (by omega)]

/-- The first i bytes of a number less the prime, the others of the number. -/
def lsd (m i : Nat) : List Nat := tab (fun p => if p < i then (m - PP) / 256 ^ p % 256 else m / 256 ^ p % 256) 17
theorem lsd_len (m i : Nat) : (lsd m i).length = 17 := by simp [lsd]
theorem lsd_zero (m : Nat) : lsd m 0 = dig m := tab_congr _ _ _ fun p hp => by simp
theorem lsd_all (m : Nat) : lsd m 17 = dig (m - PP) := tab_congr _ _ _ fun p hp => if_pos hp
theorem lsd_nth (m i : Nat) (h : i < 17) : nth (lsd m i) i = m / 256 ^ i % 256 := by rw [lsd, nth_tab _ _ _ h, if_neg (by omega)]
theorem lsd_set (m i : Nat) (h : i < 17) : (lsd m i).set i ((m - PP) / 256 ^ i % 256) = lsd m (i + 1) := by
  refine nth_ext (by simp [lsd]) fun k hk => ?_
  simp [lsd] at hk
  rw [nth_set _ _ _ _ (by rw [lsd_len]; omega), lsd, nth_tab _ _ _ hk, lsd, nth_tab _ _ _ hk]
  by_cases h1 : i = k
  · subst h1; simp
  · rw [if_neg h1]
    by_cases h2 : k < i
    · rw [if_pos h2, if_pos (by omega)]
    · rw [if_neg h2, if_neg (by omega)]

theorem l43_1 (C : Det.Calls) (M : Mem) (m : Nat) (hm : PP ≤ m) (z : List AV) (r : Int) (j : Nat) : ∀ (i fu b : Nat), i + j = 17 → j < fu → b = bor m i →
    fgt a43_1 (rnd0 (some (e43_1 (.ptr (some ⟨M.length, 0, 17, 0⟩)) (.ptr (some ⟨M.length, 4, 17, 0⟩)) (.int .i64 r) (.int .i64 b) (.int .i64 i), mk [(0, .cells ((lsd m i).map ci) true true), (4, .cells z true true)] :: M)) k43_1 C s43_b1 fu) =
      some (.exit 2, x43_1 (.ptr (some ⟨M.length, 0, 17, 0⟩)) (.ptr (some ⟨M.length, 4, 17, 0⟩)) (.int .i64 r), mk [(0, .cells ((dig (m - PP)).map ci) true true), (4, .cells z true true)] :: M) := by
  induction j with
  | zero =>
    intro i fu b h hf hb
    obtain rfl : i = 17 := by omega
    rw [rnd0_some]
    conv => lhs; arg 2; arg 1; rw [s43_b1]
    rw [lsd_all]
    generalize dig (m - PP) = Z
    simp
  | succ j ih0 =>
    intro i fu b h hf hb
    obtain ⟨fu, rfl⟩ : ∃ m, fu = m + 1 := ⟨fu - 1, by omega⟩
    have hi2 : i < 17 := by omega
    have hi : (i : Int) < 17 := by omega
    have hds := dig_sub m i hm
    rw [← hb] at hds
    have hpd := pdig i hi2
    have hb1 : b ≤ 1 := by rw [hb]; unfold bor; split <;> omega
    have hl := lsd_len m i
    have g : ((lsd m i).map ci)[i]? = some (ci (m / 256 ^ i % 256)) := by rw [List.getElem?_map, getElem?_nth _ i (by omega), lsd_nth m i hi2]; rfl
    have hs : ((lsd m i).map ci).set i (ci ((m - PP) / 256 ^ i % 256)) = (lsd m (i + 1)).map ci := by rw [← lsd_set m i hi2, List.map_set]
    have ih := ih0 (i + 1) fu _ (by omega) (by omega) rfl
    rw [hds.2] at ih
    rw [hds.1] at hs
    generalize lsd m (i + 1) = Z2 at *
    generalize lsd m i = Z at *
    have x1 : m / 256 ^ i % 256 < 256 := Nat.mod_lt _ (by omega)
    generalize m / 256 ^ i % 256 = x at *
    generalize PP / 256 ^ i % 256 = p at *
    clear hds
    simp only [ci] at g hs
    rw [rnd0_some]
    conv => lhs; arg 2; arg 1; rw [s43_b1]
    by_cases h0 : i = 0
    · subst h0
      rw [if_pos rfl] at hpd
      subst hpd
      by_cases hlt : x < 251 + b
      · rw [if_pos hlt] at hs ih
        obtain ⟨V, hV⟩ : ∃ V, x + 256 - (251 + b) = V := ⟨_, rfl⟩
        rw [hV] at hs
        have c1 : (x : Int) - 251 - (b : Int) < 0 := by omega
        have c2 : (x : Int) - 251 - (b : Int) + 256 = (V : Int) := by omega
        simpa (disch := omega) [-List.getElem?_map, -List.map_set, hi, hi2, hl, g, hs, c1, c2, if_pos, IntWalk.i64_in] using ih
      · rw [if_neg hlt] at hs ih
        obtain ⟨V, hV⟩ : ∃ V, x - (251 + b) = V := ⟨_, rfl⟩
        rw [hV] at hs
        have c2 : (x : Int) - 251 - (b : Int) = (V : Int) := by omega
        have c1 : ¬ (V : Int) < 0 := by omega
        simpa (disch := omega) [-List.getElem?_map, -List.map_set, hi, hi2, hl, g, hs, c1, c2, if_pos, IntWalk.i64_in] using ih
    · by_cases h16 : i = 16
      · subst h16
        rw [if_neg h0, if_pos rfl] at hpd
        subst hpd
        by_cases hlt : x < 3 + b
        · rw [if_pos hlt] at hs ih
          obtain ⟨V, hV⟩ : ∃ V, x + 256 - (3 + b) = V := ⟨_, rfl⟩
          rw [hV] at hs
          have c1 : (x : Int) - 3 - (b : Int) < 0 := by omega
          have c2 : (x : Int) - 3 - (b : Int) + 256 = (V : Int) := by omega
          simpa (disch := omega) [-List.getElem?_map, -List.map_set, hi, hi2, hl, g, hs, c1, c2, if_pos, IntWalk.i64_in] using ih
        · rw [if_neg hlt] at hs ih
          obtain ⟨V, hV⟩ : ∃ V, x - (3 + b) = V := ⟨_, rfl⟩
          rw [hV] at hs
          have c2 : (x : Int) - 3 - (b : Int) = (V : Int) := by omega
          have c1 : ¬ (V : Int) < 0 := by omega
          simpa (disch := omega) [-List.getElem?_map, -List.map_set, hi, hi2, hl, g, hs, c1, c2, if_pos, IntWalk.i64_in] using ih
      · rw [if_neg h0, if_neg h16] at hpd
        subst hpd
        have k0 : ¬ (i : Int) = 0 := by omega
        have k16 : ¬ (i : Int) = 16 := by omega
        by_cases hlt : x < 255 + b
        · rw [if_pos hlt] at hs ih
          obtain ⟨V, hV⟩ : ∃ V, x + 256 - (255 + b) = V := ⟨_, rfl⟩
          rw [hV] at hs
          have c1 : (x : Int) - 255 - (b : Int) < 0 := by omega
          have c2 : (x : Int) - 255 - (b : Int) + 256 = (V : Int) := by omega
          simpa (disch := omega) [-List.getElem?_map, -List.map_set, hi, hi2, hl, g, hs, c1, c2, if_pos, IntWalk.i64_in, h0, h16, k0, k16] using ih
        · rw [if_neg hlt] at hs ih
          obtain ⟨V, hV⟩ : ∃ V, x - (255 + b) = V := ⟨_, rfl⟩
          rw [hV] at hs
          have c2 : (x : Int) - 255 - (b : Int) = (V : Int) := by omega
          have c1 : ¬ (V : Int) < 0 := by omega
          simpa (disch := omega) [-List.getElem?_map, -List.map_set, hi, hi2, hl, g, hs, c1, c2, if_pos, IntWalk.i64_in, h0, h16, k0, k16] using ih

end Go.Det.PR
