/-
  POLY, part A: what each function comes to, here; the fixed words; bits that make no difference.
-/
import Derived.Test.YtpaagjjgmlmngaaG
import Derived.Test.YtpaagjjgmlmngaaLibPC
import Derived.Test.YtpaagjjgmlmngaaDetV
set_option maxRecDepth 100000
set_option maxHeartbeats 4000000
set_option linter.unusedSimpArgs false
set_option linter.unusedVariables false
namespace Go.Proofs.Ytpaagjjgmlmngaa
open Go.Det Go.Det.P

abbrev clpC (k M r) := clamp_ev (SP := SP) (n16 := 16) rfl k M r
abbrev sumC (k M key s hs) := sum_ev (SP := SP) (n16 := 16) (n19 := 19) (n29 := 29) (n30 := 30) (n31 := 31) (n32 := 32) (n40 := 40) (n41 := 41) (n42 := 42) (n53 := 53) (n54 := 54) rfl rfl rfl rfl rfl rfl rfl rfl rfl rfl rfl k M key s hs
theorem sumR_ok (key s : List UInt8) (hk : key.length = 32) (hs : s.length ≤ 65536) : sumR key s = (tagC key s, 0) := by rw [sumR, if_pos hk, if_pos hs]
theorem sum_ok (k : Nat) (M : Mem) (key s : List UInt8) (hk : key.length = 32) (hs : s.length ≤ 65536) : callFn SP (k + 5) 19 [.str key, .str s] M = some (.tuple [.str (tagC key s), .int .i64 0], [], M) := by
  have h := sumC k M key s (by omega)
  rwa [sumR_ok key s hk hs] at h

/-- The fixed words. -/
theorem wakes (k : Nat) (M : Mem) : callFn SP (k + 6) 18 [] M = some (.bool true, [], M) := by
  have t1 : tagC (1 :: (List.replicate 15 0 ++ [48, 49, 50, 51, 52, 53, 54, 55, 56, 57, 97, 98, 99, 100, 101, 102])) [] = [48, 49, 50, 51, 52, 53, 54, 55, 56, 57, 97, 98, 99, 100, 101, 102] := by decide +kernel
  have t2 : tagC (1 :: List.replicate 31 0) [97] = [97, 1] ++ List.replicate 14 0 := by decide +kernel
  have h1 := fun k M => sum_ok k M (1 :: (List.replicate 15 0 ++ [48, 49, 50, 51, 52, 53, 54, 55, 56, 57, 97, 98, 99, 100, 101, 102])) [] (by simp) (by simp)
  have h2 := fun k M => sum_ok k M (1 :: List.replicate 31 0) [97] (by simp) (by simp)
  rw [t1] at h1
  rw [t2] at h2
  have z1 := bytesOf_rep 15
  have z2 := bytesOf_rep 31
  have z3 := bytesOf_rep 14
  simp only [List.reduceReplicate, List.cons_append, List.nil_append] at z1 z2 z3 h1 h2
  rw [call_fn (by rfl) (by simp)]
  simp (disch := omega) [z1, z2, z3, h1, h2, if_pos]

/-! ### bits that make no difference -/
def mkb (p : Nat) : UInt8 := if p % 4 = 3 then 240 else if p % 4 = 0 ∧ 0 < p then 3 else 0
theorem and3 (x y : UInt8) (a b : UInt8) (h : a &&& b = 0) : (x ^^^ (y &&& a)) &&& b = x &&& b := by
  have e : (x ^^^ (y &&& a)) &&& b = (x &&& b) ^^^ (y &&& (a &&& b)) := by
    apply UInt8.eq_of_toBitVec_eq
    simp only [UInt8.toBitVec_and, UInt8.toBitVec_xor]
    apply BitVec.eq_of_getLsbD_eq
    intro i hi
    simp only [BitVec.getLsbD_and, BitVec.getLsbD_xor]
    cases x.toBitVec.getLsbD i <;> cases y.toBitVec.getLsbD i <;> cases a.toBitVec.getLsbD i <;> cases b.toBitVec.getLsbD i <;> rfl
  rw [e, h, UInt8.and_zero, UInt8.xor_zero]
theorem cl_mkb (p : Nat) (x y : UInt8) : cl p (x ^^^ (y &&& mkb p)) = cl p x := by
  unfold cl mkb
  by_cases h3 : p % 4 = 3
  · simp only [if_pos h3]; exact and3 x y 240 15 rfl
  · by_cases h0 : p % 4 = 0 ∧ 0 < p
    · simp only [if_neg h3, if_pos h0]; exact and3 x y 3 252 rfl
    · simp only [if_neg h3, if_neg h0]
      rw [UInt8.and_zero, UInt8.xor_zero]

/-- The first i bytes of a key, with noise. -/
def oth (key noise : List UInt8) (i : Nat) : List UInt8 := tab (fun p => if p < i then nth key p ^^^ (nth noise p &&& mkb p) else nth key p) 32
theorem oth_len (key noise : List UInt8) (i : Nat) : (oth key noise i).length = 32 := by simp [oth]
theorem oth_zero (key noise : List UInt8) (h : key.length = 32) : oth key noise 0 = key := tab_eq _ _ _ h fun i hi => by simp
theorem oth_nth (key noise : List UInt8) (i : Nat) (h : i < 32) : nth (oth key noise i) i = nth key i := by rw [oth, nth_tab _ _ _ h, if_neg (by omega)]
theorem oth_set (key noise : List UInt8) (i : Nat) (h : i < 32) : (oth key noise i).set i (nth key i ^^^ (nth noise i &&& mkb i)) = oth key noise (i + 1) := by
  refine nth_ext (by simp [oth]) fun k hk => ?_
  simp [oth] at hk
  rw [nth_set _ _ _ _ (by rw [oth_len]; omega), oth, nth_tab _ _ _ hk, oth, nth_tab _ _ _ hk]
  by_cases h1 : i = k
  · subst h1; simp
  · rw [if_neg h1]
    by_cases h2 : k < i
    · rw [if_pos h2, if_pos (by omega)]
    · rw [if_neg h2, if_neg (by omega)]
theorem oth_clamp (key noise : List UInt8) : clampB ((oth key noise 16).take 16) = clampB (key.take 16) := by
  refine tab_congr _ _ _ fun p hp => ?_
  have e1 : nth ((oth key noise 16).take 16) p = nth (oth key noise 16) p := by simp [nth, List.getD, List.getElem?_take, hp]
  have e2 : nth (key.take 16) p = nth key p := by simp [nth, List.getD, List.getElem?_take, hp]
  rw [e1, e2, oth, nth_tab _ _ _ (by omega), if_pos hp, cl_mkb]
theorem oth_drop (key noise : List UInt8) (h : key.length = 32) : (oth key noise 16).drop 16 = key.drop 16 := by
  refine nth_ext (by simp [oth_len, h]) fun p hp => ?_
  simp [oth_len] at hp
  have e1 : nth ((oth key noise 16).drop 16) p = nth (oth key noise 16) (16 + p) := by simp [nth, List.getD, List.getElem?_drop]
  have e2 : nth (key.drop 16) p = nth key (16 + p) := by simp [nth, List.getD, List.getElem?_drop]
  rw [e1, e2, oth, nth_tab _ _ _ (by omega), if_neg (by omega)]
theorem oth_tag (key noise s : List UInt8) (h : key.length = 32) : tagC (oth key noise 16) s = tagC key s := by
  rw [tagC, tagC, oth_clamp, oth_drop key noise h]

theorem l8 (C : Det.Calls) (M : Mem) (s key noise : List UInt8) (hk : key.length = 32) (hnl : noise.length = 16) (j : Nat) : ∀ (i n : Nat), i + j = 16 → j < n →
    fgt a8_0 (rnd0 (some (e8_0 (.str s) (.ptr (some ⟨M.length, 0, 32, 0⟩)) (.ptr (some ⟨M.length, 4, 16, 0⟩)) (.ptr (some ⟨M.length, 8004, 32, 0⟩)) (.int .i64 i), mk [(0, .cells (key.map byteAV) true true), (4, .cells (noise.map byteAV) true true), (8004, .cells ((oth key noise i).map byteAV) true true)] :: M)) k8_0 C s8_b0 n) =
      some (.exit 0, x8_0 (.str s) (.ptr (some ⟨M.length, 0, 32, 0⟩)) (.ptr (some ⟨M.length, 8004, 32, 0⟩)), mk [(0, .cells (key.map byteAV) true true), (8004, .cells ((oth key noise 16).map byteAV) true true)] :: M) := by
  induction j with
  | zero =>
    intro i n h hn
    obtain rfl : i = 16 := by omega
    rw [rnd0_some]
    conv => lhs; arg 2; arg 1; rw [s8_b0]
    generalize oth key noise 16 = Z
    simp
  | succ j ih0 =>
    intro i n h hn
    obtain ⟨n, rfl⟩ : ∃ m, n = m + 1 := ⟨n - 1, by omega⟩
    have ih := ih0 (i + 1) n (by omega) (by omega)
    have hi : (i : Int) < 16 := by omega
    have hi2 : i < 16 := by omega
    have hi3 : i < 32 := by omega
    have hl := oth_len key noise i
    have g : ((oth key noise i).map byteAV)[i]? = some (byteAV (nth key i)) := by rw [List.getElem?_map, getElem?_nth _ i (by omega), oth_nth key noise i (by omega)]; rfl
    have gn : (noise.map byteAV)[i]? = some (byteAV (nth noise i)) := by rw [List.getElem?_map, getElem?_nth _ i (by omega)]; rfl
    have hs : ((oth key noise i).map byteAV).set i (byteAV (nth key i ^^^ (nth noise i &&& mkb i))) = (oth key noise (i + 1)).map byteAV := by rw [← oth_set key noise i (by omega), List.map_set]
    have tE : (i : Int).tmod 4 = (i : Int) % 4 := Int.tmod_eq_emod_of_nonneg (by omega)
    generalize oth key noise (i + 1) = Z2 at *
    generalize oth key noise i = Z at *
    rw [rnd0_some]
    conv => lhs; arg 2; arg 1; rw [s8_b0]
    by_cases h3 : i % 4 = 3
    · have t3 : (i : Int).tmod 4 = 3 := by rw [tE]; omega
      rw [show mkb i = 240 from if_pos h3] at hs
      simpa (disch := omega) [-List.getElem?_map, -List.map_set, hi, hi2, hi3, hl, hnl, g, gn, t3, hs, if_pos, IntWalk.i64_in] using ih
    · have t3 : ¬ (i : Int).tmod 4 = 3 := by rw [tE]; omega
      by_cases h0 : i % 4 = 0 ∧ 0 < i
      · have t0 : (i : Int).tmod 4 = 0 := by rw [tE]; omega
        have t1 : (0 : Int) < i := by omega
        rw [show mkb i = 3 by rw [mkb, if_neg h3, if_pos h0]] at hs
        simpa (disch := omega) [-List.getElem?_map, -List.map_set, hi, hi2, hi3, hl, hnl, g, gn, t3, t0, t1, h0.2, hs, if_pos, IntWalk.i64_in] using ih
      · rw [show mkb i = 0 by rw [mkb, if_neg h3, if_neg h0]] at hs
        by_cases t0 : (i : Int).tmod 4 = 0
        · have t1 : i = 0 := by rw [tE] at t0; omega
          have t2 : ¬ (0 : Int) < i := by omega
          have t4 : ¬ 0 < i := by omega
          simpa (disch := omega) [-List.getElem?_map, -List.map_set, -UInt8.and_zero, -UInt8.xor_zero, hi, hi2, hi3, hl, hnl, g, gn, t3, t0, t2, t4, hs, if_pos, IntWalk.i64_in] using ih
        · simpa (disch := omega) [-List.getElem?_map, -List.map_set, -UInt8.and_zero, -UInt8.xor_zero, hi, hi2, hi3, hl, hnl, g, gn, t3, t0, hs, if_pos, IntWalk.i64_in] using ih

theorem law8 (k : Nat) (M : Mem) (key s noise : List UInt8) (hk : key.length = 32) (hnl : noise.length = 16) : callFn SP (k + 7) 8 [.agg (key.map byteAV), .str s, .agg (noise.map byteAV)] M = some (.bool true, [], M) := by
  obtain ⟨N, e1, e2, e3, e4⟩ : ∃ N : Nat, min (s.length : Int) 300 = N ∧ N ≤ s.length ∧ min s.length 300 = N ∧ N ≤ 300 := ⟨min 300 s.length, by omega, by omega, by omega, by omega⟩
  obtain ⟨S, hS⟩ : ∃ S, s.take N = S := ⟨_, rfl⟩
  have e5 : S.length = N := by rw [← hS, List.length_take]; omega
  have q := l8 (callFn SP (k + 6)) M S key noise hk hnl 16 0 17 rfl (by omega)
  rw [oth_zero key noise hk] at q
  have ho := oth_len key noise 16
  have h1 := fun k M => sum_ok k M key S hk (by omega)
  have h2 := fun k M => sum_ok k M (oth key noise 16) S ho (by omega)
  rw [oth_tag key noise S hk] at h2
  have kt : (key.take 16).length = 16 := by rw [List.length_take]; omega
  have ot : ((oth key noise 16).take 16).length = 16 := by rw [List.length_take]; omega
  have h3 := fun k M => clpC k M (key.take 16)
  have h4 := fun k M => clpC k M ((oth key noise 16).take 16)
  rw [clampR, if_pos kt] at h3
  rw [clampR, if_pos ot, oth_clamp] at h4
  generalize clampB (key.take 16) = B at *
  generalize tagC key S = T at *
  have b1 : ∀ (x : List UInt8) (n : Nat), bytesOf ((x.map byteAV).take n) = some (x.take n) := fun x n => by rw [← List.map_take, bytesOf_map]
  have tk : ∀ (x : List UInt8), x.length = 32 → x.take 32 = x := fun x h => List.take_of_length_le (by omega)
  have tk2 : ∀ (x : List UInt8), x.length = 32 → (x.map byteAV).take 32 = x.map byteAV := fun x h => List.take_of_length_le (by simp [h])
  generalize oth key noise 16 = O at *
  rw [call_fn (by rfl) (by simp)]
  simp (disch := omega) [hk, hnl, e1, e2, e3, hS, tk2, if_pos]
  rw [ev_loop 17 (by simp) q (by omega)]
  simp (disch := omega) [hk, ho, b1, tk, tk2, h1, h2, h3, h4, wakes, if_pos]

theorem ev_PolyUnused (s : Scope) (args : List AV) (h : ArgsShp s [.arr 32 (.int .u8), .str, .arr 16 (.int .u8)] args) : ∃ k M', callFn SP k 8 args [s, mk []] = some (.bool true, [], M') := by
  obtain ⟨_, _, rfl, h1, _, _, rfl, h2, _, _, rfl, h3, rfl⟩ := h
  obtain ⟨key, hk, rfl⟩ := ArgShp_arr8 h1
  obtain ⟨x, rfl, hx⟩ := ArgShp_str h2
  obtain ⟨noise, hn, rfl⟩ := ArgShp_arr8 h3
  exact ⟨7, _, law8 0 [s, mk []] key x noise hk hn⟩
end Go.Proofs.Ytpaagjjgmlmngaa
