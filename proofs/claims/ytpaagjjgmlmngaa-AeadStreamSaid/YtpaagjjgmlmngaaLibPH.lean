/-
  LIB, poly: the document's numbers, byte by byte.
-/
import Derived.Test.YtpaagjjgmlmngaaLibPG
set_option maxRecDepth 100000
set_option maxHeartbeats 2000000
set_option linter.unusedSimpArgs false
set_option linter.unusedVariables false
namespace Go.Det.PR
open Go.Det Go.Det.P

/-- A byte of a number, as a cell. -/
def ci (n : Nat) : AV := .int .i64 (n : Int)
/-- The bytes of a number. -/
def dig (n : Nat) : List Nat := tab (fun p => n / 256 ^ p % 256) 17
theorem dig_len (n : Nat) : (dig n).length = 17 := by simp [dig]
theorem dig_nth (n i : Nat) (h : i < 17) : nth (dig n) i = n / 256 ^ i % 256 := by rw [dig, nth_tab _ _ _ h]
theorem dig_cell (n i : Nat) (h : i < 17) : ((dig n).map ci)[i]? = some (ci (n / 256 ^ i % 256)) := by
  rw [List.getElem?_map, getElem?_nth _ i (by rw [dig_len]; exact h), dig_nth n i h]; rfl
@[simp] theorem noNils_ci (l : List Nat) : AV.noNils (l.map ci) = true := noNils_map _ (fun x => rfl) l
@[simp] theorem unders_ci (m : Nat) (l : List Nat) : AV.unders m (l.map ci) = true := unders_map _ _ (fun x => rfl) l
theorem takeVL_ci (d m : Nat) : ∀ l : List Nat, takeVL d m (l.map ci) = l.map ci
  | [] => rfl
  | x :: l => by rw [List.map_cons, takeVL, takeVL_ci d m l]; rfl
theorem expL_ci (d : Nat) (s : Scope) (cs : List Con) (l : List Nat) : expL d s cs (l.map ci) = some (l.map ci, s, cs) := expL_map ci (fun d s cs x => rfl) d s cs l

/-! ### below -/
/-- All bytes from the first to the i-th one are 255. -/
def full (n i : Nat) : Prop := ∀ p, 1 ≤ p → p ≤ i → n / 256 ^ p % 256 = 255
theorem full_succ (n i : Nat) (h : full n i) (h1 : n / 256 ^ (i + 1) % 256 = 255) : full n (i + 1) := fun p hp hi => by
  by_cases h2 : p = i + 1
  · rw [h2]; exact h1
  · exact h p hp (by omega)
/-- With full bytes from the first to the i-th, and without. -/
theorem full_nat (n : Nat) : ∀ i, full n i → n % 256 ^ (i + 1) = 256 ^ (i + 1) - 256 + n % 256
  | 0, _ => by simp
  | i + 1, h => by
    have ih := full_nat n i (fun p h1 h2 => h p h1 (by omega))
    have h2 := h (i + 1) (by omega) (by omega)
    have h3 : 256 ≤ 256 ^ (i + 1) := by rw [Nat.pow_succ]; have := Nat.pow_pos (n := i) (show 0 < 256 by omega); omega
    rw [Nat.pow_succ 256 (i + 1), Nat.mod_mul, ih, h2]
    omega

theorem below_iff (n : Nat) (hn : n < 256 ^ 17) (h16 : n / 256 ^ 16 % 256 = 3) (hf : full n 15) : n < PP ↔ n % 256 < 251 := by
  have h := full_nat n 15 hf
  have h17 : n / 256 ^ 16 < 256 := by rw [Nat.div_lt_iff_lt_mul (by decide)]; rw [← Nat.pow_succ']; exact hn
  rw [Nat.mod_eq_of_lt h17] at h16
  have hd := Nat.div_add_mod n (256 ^ 16)
  rw [h16, h] at hd
  have e : (256 : Nat) ^ 16 = 340282366920938463463374607431768211456 := by decide
  rw [e] at hd
  show n < 1361129467683753853853498429727072845819 ↔ _
  omega
theorem below_no (n i : Nat) (hn : n < 256 ^ 17) (h16 : n / 256 ^ 16 % 256 = 3) (h1 : 1 ≤ i) (hi : i ≤ 15) (hd : n / 256 ^ i % 256 ≠ 255) : n < PP := by
  have h17 : n / 256 ^ 16 < 256 := by rw [Nat.div_lt_iff_lt_mul (by decide)]; rw [← Nat.pow_succ']; exact hn
  rw [Nat.mod_eq_of_lt h17] at h16
  have hm := Nat.mod_mul (x := n) (a := 256 ^ i) (b := 256)
  have hmi := Nat.mod_lt n (Nat.pow_pos (n := i) (show 0 < 256 by omega))
  have hd2 : n / 256 ^ i % 256 ≤ 254 := by have := Nat.mod_lt (n / 256 ^ i) (show 256 > 0 by omega); omega
  -- the bytes up to the i-th are less than 255 * 256 ^ i
  have hlow : n % 256 ^ (i + 1) < 255 * 256 ^ i := by
    rw [Nat.pow_succ, hm]
    have : 256 ^ i * (n / 256 ^ i % 256) ≤ 256 ^ i * 254 := Nat.mul_le_mul_left _ hd2
    omega
  have hpi : 256 ≤ 256 ^ i := by
    calc 256 = 256 ^ 1 := rfl
      _ ≤ 256 ^ i := Nat.pow_le_pow_right (by omega) h1
  have hX : n % 256 ^ 16 ≤ 256 ^ 16 - 256 := by
    have e16 : (256 : Nat) ^ 16 = 256 ^ (i + 1) * 256 ^ (15 - i) := by rw [← Nat.pow_add, show i + 1 + (15 - i) = 16 by omega]
    have hq : n / 256 ^ (i + 1) % 256 ^ (15 - i) ≤ 256 ^ (15 - i) - 1 := by
      have := Nat.mod_lt (n / 256 ^ (i + 1)) (Nat.pow_pos (n := 15 - i) (show 0 < 256 by omega)); omega
    rw [e16, Nat.mod_mul]
    have h5 : 256 ^ (i + 1) * (n / 256 ^ (i + 1) % 256 ^ (15 - i)) ≤ 256 ^ (i + 1) * (256 ^ (15 - i) - 1) := Nat.mul_le_mul_left _ hq
    rw [Nat.mul_sub, Nat.mul_one] at h5
    have h6 : 256 ^ (i + 1) ≤ 256 ^ (i + 1) * 256 ^ (15 - i) := Nat.le_mul_of_pos_right _ (Nat.pow_pos (by omega))
    have h7 : 256 ^ (i + 1) = 256 ^ i * 256 := Nat.pow_succ ..
    omega
  have hdm := Nat.div_add_mod n (256 ^ 16)
  rw [h16] at hdm
  have e : (256 : Nat) ^ 16 = 340282366920938463463374607431768211456 := by decide
  rw [e] at hdm hX
  show n < 1361129467683753853853498429727072845819
  omega

theorem l55 (C : Det.Calls) (M : Mem) (m : Nat) (hm : m < 256 ^ 17) (h16 : m / 256 ^ 16 % 256 = 3) (j : Nat) : ∀ (n : Nat), j ≤ 15 → j < n →
    (full m j → fgt a55_0 (rnd0 (some (e55_0 (.ptr (some ⟨M.length, 0, 17, 0⟩)) (.int .i64 j), mk [(0, .cells ((dig m).map ci) true true)] :: M)) k55_0 C s55_b0 n) =
      some (.exit 0, x55_0 (.ptr (some ⟨M.length, 0, 17, 0⟩)) .dead, mk [(0, .cells ((dig m).map ci) true true)] :: M)) ∧
    (¬ full m j → m < PP ∧ ∃ e' s', fgt a55_0 (rnd0 (some (e55_0 (.ptr (some ⟨M.length, 0, 17, 0⟩)) (.int .i64 j), mk [(0, .cells ((dig m).map ci) true true)] :: M)) k55_0 C s55_b0 n) = some (.ret, e', s' :: M) ∧ e'[2]? = some (.bool true)) := by
  have hl := dig_len m
  have gc := dig_cell m
  generalize dig m = D at *
  induction j with
  | zero =>
    intro n hj hn
    refine ⟨fun _ => ?_, fun h => absurd (fun p h1 h2 => by omega) h⟩
    rw [rnd0_some]
    conv => lhs; arg 2; arg 1; rw [s55_b0]
    simp
  | succ j ih0 =>
    intro n hj hn
    obtain ⟨n, rfl⟩ : ∃ m, n = m + 1 := ⟨n - 1, by omega⟩
    have ih := ih0 n (by omega) (by omega)
    have h1 : (1 : Int) ≤ (j : Int) + 1 := by omega
    have hg := gc (j + 1) (by omega)
    have t0 : ((j : Int) + 1).toNat = j + 1 := by omega
    have t1 : (j : Int) + 1 < 17 := by omega
    rw [rnd0_some]
    conv => enter [1, 2]; lhs; arg 2; arg 1; rw [s55_b0]
    conv => enter [2, 2, 2, 1, e', 1, s', 1]; lhs; arg 2; arg 1; rw [s55_b0]
    by_cases hd : m / 256 ^ (j + 1) % 256 = 255
    · rw [hd] at hg
      refine ⟨fun h => ?_, fun h => ?_⟩
      · have h2 := ih.1 (fun p a b => h p a (by omega))
        simpa (disch := omega) [-List.getElem?_map, h1, hg, hl, ci, t0, t1, if_pos, IntWalk.i64_in] using h2
      · have h2 := ih.2 (fun hf => h (full_succ m j hf hd))
        refine ⟨h2.1, ?_⟩
        simpa (disch := omega) [-List.getElem?_map, h1, hg, hl, ci, t0, t1, if_pos, IntWalk.i64_in] using h2.2
    · refine ⟨fun h => absurd (h (j + 1) (by omega) (by omega)) hd, fun h => ⟨below_no m (j + 1) hm h16 (by omega) hj hd, ?_⟩⟩
      have hd2 : ¬ ((m / 256 ^ (j + 1) % 256 : Nat) : Int) = 255 := by omega
      generalize m / 256 ^ (j + 1) % 256 = d at *
      simp (disch := omega) [-List.getElem?_map, h1, hg, hl, ci, t0, t1, hd, hd2, if_pos, IntWalk.i64_in]

theorem below_ev {SP : SProg} {n55 : Nat} (h55 : SP.fn n55 = some s55) (k : Nat) (M : Mem) (m : Nat) (hm : m < 256 ^ 17) : callFn SP (k + 1) n55 [.agg ((dig m).map ci)] M = some (.bool (decide (m < PP)), [], M) := by
  have hl := dig_len m
  have gc := dig_cell m
  have g16 := gc 16 (by omega)
  have g0 := gc 0 (by omega)
  have hdm := Nat.div_add_mod m (256 ^ 16)
  have h17 : m / 256 ^ 16 < 256 := by rw [Nat.div_lt_iff_lt_mul (by decide), ← Nat.pow_succ']; exact hm
  have hml := Nat.mod_lt m (show 256 ^ 16 > 0 by decide)
  have e16 : (256 : Nat) ^ 16 = 340282366920938463463374607431768211456 := by decide
  have Q := fun h3 => l55 (callFn SP k) M m hm h3 15 16 (by omega) (by omega)
  generalize dig m = D at hl gc g16 g0 Q ⊢
  rw [call_fn (h55.trans rfl) (by simp)]
  by_cases h3 : m / 256 ^ 16 % 256 = 3
  · have q := Q h3
    rw [h3] at g16
    by_cases hf : full m 15
    · have q1 := q.1 hf
      have hb := below_iff m hm h3 hf
      rw [Nat.pow_zero, Nat.div_one] at g0
      obtain ⟨d, hd⟩ : ∃ d, m % 256 = d := ⟨_, rfl⟩
      rw [hd] at hb g0
      have hbb : decide ((d : Int) < 251) = decide (m < PP) := decide_eq_decide.2 ⟨fun h => hb.2 (by omega), fun h => by have := hb.1 h; omega⟩
      rw [← hbb]
      simp (disch := omega) [-List.getElem?_map, g16, hl, ci, if_pos]
      rw [ev_loop 16 (by simp) q1 (by omega)]
      simp (disch := omega) [-List.getElem?_map, g0, hl, ci, if_pos]
    · obtain ⟨hlt, e', s', q2, he⟩ := q.2 hf
      rw [decide_eq_true hlt]
      simp (disch := omega) [-List.getElem?_map, g16, hl, ci, if_pos]
      rw [ev_loop 16 (by simp) q2 (by omega)]
      simp (disch := omega) [he]
  · have hb : decide (((m / 256 ^ 16 % 256 : Nat) : Int) < 3) = decide (m < PP) := by
      rw [Nat.mod_eq_of_lt h17] at h3 ⊢
      rw [e16] at h3 hdm hml h17 ⊢
      apply decide_eq_decide.2
      show _ ↔ m < 1361129467683753853853498429727072845819
      omega
    obtain ⟨d, hd⟩ : ∃ d, m / 256 ^ 16 % 256 = d := ⟨_, rfl⟩
    rw [hd] at hb g16 h3
    have h4 : ¬ (d : Int) = 3 := by omega
    rw [← hb]
    simp (disch := omega) [-List.getElem?_map, g16, hl, ci, if_pos, h3, h4]

/-! ### sums -/
/-- The first i bytes of a sum, the others of the first number. -/
def sd (m n i : Nat) : List Nat := tab (fun p => if p < i then (m + n) / 256 ^ p % 256 else m / 256 ^ p % 256) 17
theorem sd_len (m n i : Nat) : (sd m n i).length = 17 := by simp [sd]
theorem sd_zero (m n : Nat) : sd m n 0 = dig m := tab_congr _ _ _ fun p hp => by simp
theorem sd_all (m n : Nat) : sd m n 17 = dig (m + n) := tab_congr _ _ _ fun p hp => if_pos hp
theorem sd_nth (m n i : Nat) (h : i < 17) : nth (sd m n i) i = m / 256 ^ i % 256 := by rw [sd, nth_tab _ _ _ h, if_neg (by omega)]
theorem sd_set (m n i : Nat) (h : i < 17) : (sd m n i).set i ((m + n) / 256 ^ i % 256) = sd m n (i + 1) := by
  refine nth_ext (by simp [sd]) fun k hk => ?_
  simp [sd] at hk
  rw [nth_set _ _ _ _ (by rw [sd_len]; omega), sd, nth_tab _ _ _ hk, sd, nth_tab _ _ _ hk]
  by_cases h1 : i = k
  · subst h1; simp
  · rw [if_neg h1]
    by_cases h2 : k < i
    · rw [if_pos h2, if_pos (by omega)]
    · rw [if_neg h2, if_neg (by omega)]

theorem l33 (C : Det.Calls) (M : Mem) (m n : Nat) (z : List AV) (j : Nat) : ∀ (i fu c : Nat), i + j = 17 → j < fu → c = (m % 256 ^ i + n % 256 ^ i) / 256 ^ i →
    fgt a33_0 (rnd0 (some (e33_0 (.ptr (some ⟨M.length, 0, 17, 0⟩)) (.ptr (some ⟨M.length, 4, 17, 0⟩)) (.ptr (some ⟨M.length, 8, 17, 0⟩)) (.int .i64 c) (.int .i64 i), mk [(0, .cells ((sd m n i).map ci) true true), (4, .cells ((dig n).map ci) true true), (8, .cells z true true)] :: M)) k33_0 C s33_b0 fu) =
      some (.exit 0, x33_0 (.ptr (some ⟨M.length, 0, 17, 0⟩)) (.ptr (some ⟨M.length, 8, 17, 0⟩)), mk [(0, .cells ((dig (m + n)).map ci) true true), (8, .cells z true true)] :: M) := by
  have hln := dig_len n
  have gn := dig_cell n
  induction j with
  | zero =>
    intro i fu c h hf hc
    obtain rfl : i = 17 := by omega
    rw [rnd0_some]
    conv => lhs; arg 2; arg 1; rw [s33_b0]
    rw [sd_all]
    generalize dig (m + n) = Z
    generalize dig n = Y
    simp
  | succ j ih0 =>
    intro i fu c h hf hc
    obtain ⟨fu, rfl⟩ : ∃ m, fu = m + 1 := ⟨fu - 1, by omega⟩
    have hX : 0 < 256 ^ i := Nat.pow_pos (by omega)
    have hdg := dig_add m n (256 ^ i) hX
    rw [← hc, ← Nat.pow_succ] at hdg
    have hc1 : c ≤ 1 := by
      rw [hc]
      have m1 := Nat.mod_lt m hX
      have m2 := Nat.mod_lt n hX
      exact Nat.le_of_lt_succ (Nat.div_lt_of_lt_mul (by omega))
    have hi : (i : Int) < 17 := by omega
    have hi2 : i < 17 := by omega
    have ih := ih0 (i + 1) fu _ (by omega) (by omega) hdg.2
    have hl := sd_len m n i
    have g : ((sd m n i).map ci)[i]? = some (ci (m / 256 ^ i % 256)) := by rw [List.getElem?_map, getElem?_nth _ i (by omega), sd_nth m n i hi2]; rfl
    have gn2 := gn i hi2
    have hs : ((sd m n i).map ci).set i (ci ((m + n) / 256 ^ i % 256)) = (sd m n (i + 1)).map ci := by rw [← sd_set m n i hi2, List.map_set]
    rw [← hdg.1] at hs
    generalize sd m n (i + 1) = Z2 at *
    generalize sd m n i = Z at *
    generalize dig n = Y at *
    have x1 : m / 256 ^ i % 256 < 256 := Nat.mod_lt _ (by omega)
    have y1 : n / 256 ^ i % 256 < 256 := Nat.mod_lt _ (by omega)
    generalize m / 256 ^ i % 256 = x at *
    generalize n / 256 ^ i % 256 = y at *
    have t1 : ((c : Int) + (x : Int) + (y : Int)).tmod 256 = (((c + (x + y)) % 256 : Nat) : Int) := by
      rw [Int.tmod_eq_emod_of_nonneg (by omega)]; omega
    have t2 : ((c : Int) + (x : Int) + (y : Int)).tdiv 256 = (((c + (x + y)) / 256 : Nat) : Int) := by
      rw [Int.tdiv_eq_ediv_of_nonneg (by omega)]; omega
    simp only [ci] at g gn2 hs
    rw [rnd0_some]
    conv => lhs; arg 2; arg 1; rw [s33_b0]
    simpa (disch := omega) [-List.getElem?_map, -List.map_set, -Int.natCast_emod, -Int.natCast_ediv, hi, hi2, hl, hln, g, gn2, hs, t1, t2, if_pos, IntWalk.i64_in] using ih
end Go.Det.PR
