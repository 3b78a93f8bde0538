/-
  LIB, poly: the document's tag.
-/
import Derived.Test.YtpaagjjgmlmngaaLibPL
set_option maxRecDepth 100000
set_option maxHeartbeats 4000000
set_option linter.unusedSimpArgs false
set_option linter.unusedVariables false
namespace Go.Det.PR
open Go.Det Go.Det.P

/-! ### the tag's bytes -/
def ob (S i : Nat) : List UInt8 := tab (fun p => UInt8.ofNat (S / 256 ^ p % 256)) i
theorem ob_len (S i : Nat) : (ob S i).length = i := by simp [ob]
theorem ob_ne (S i : Nat) (h : 0 < i) : (ob S i).map byteAV ≠ [] := tab_ne _ _ _ h
theorem ob_le (S : Nat) : ∀ i, le (ob S i) = S % 256 ^ i
  | 0 => by rw [ob, tab_zero, le, Nat.pow_zero, Nat.mod_one]
  | i + 1 => by
    have ih := ob_le S i
    rw [ob] at ih ⊢
    rw [tab_succ, le_app, ih, tab_len, le, le, Nat.pow_succ, Nat.mod_mul]
    have : (UInt8.ofNat (S / 256 ^ i % 256)).toNat = S / 256 ^ i % 256 := by
      rw [UInt8.toNat_ofNat']
      exact Nat.mod_eq_of_lt (Nat.mod_lt _ (by omega))
    rw [this, Nat.mul_zero, Nat.add_zero]

theorem l20_3 (C : Det.Calls) (M : Mem) (key : List UInt8) (hk : key.length = 32) (A K : Nat) (hK : K = le (key.drop 16)) (j : Nat) : ∀ (i fu c : Nat), i + j = 16 → j < fu → c = (A % 256 ^ i + K % 256 ^ i) / 256 ^ i →
    fgt a20_3 (rnd0 (some (e20_3 (.str key) (.ptr (some ⟨M.length, 24004, 17, 0⟩)) (gv M.length 112020 ((ob (A + K) i).map byteAV)) (.int .i64 c) (.int .i64 i), mk ((24004, .cells ((dig A).map ci) true true) :: gm 112020 true ((ob (A + K) i).map byteAV)) :: M)) k20_3 C s20_b3 fu) =
      some (.exit 6, x20_3 (.slice (some ⟨M.length, 112020, 16, 0⟩) 16 1), mk [(112020, .cells ((ob (A + K) 16).map byteAV) true true)] :: M) := by
  have lA := dig_len A
  have gA := dig_cell A
  induction j with
  | zero =>
    intro i fu c h hf hc
    obtain rfl : i = 16 := by omega
    have hne := ob_ne (A + K) 16 (by omega)
    have hl := ob_len (A + K) 16
    rw [rnd0_some]
    conv => lhs; arg 2; arg 1; rw [s20_b3]
    generalize dig A = DA at *
    generalize ob (A + K) 16 = Z at *
    simp (disch := omega) [gv_ne _ _ _ hne, gm_ne _ _ _ hne, hl]
  | succ j ih0 =>
    intro i fu c h hf hc
    obtain ⟨fu, rfl⟩ : ∃ m, fu = m + 1 := ⟨fu - 1, by omega⟩
    have hX : 0 < 256 ^ i := Nat.pow_pos (by omega)
    have hdg := dig_add A K (256 ^ i) hX
    rw [← hc, ← Nat.pow_succ] at hdg
    have hc1 : c ≤ 1 := by
      rw [hc]
      have m1 := Nat.mod_lt A hX
      have m2 := Nat.mod_lt K hX
      exact Nat.le_of_lt_succ (Nat.div_lt_of_lt_mul (by omega))
    have hkn : K / 256 ^ i % 256 = (nth key (16 + i)).toNat := by
      rw [hK, ← le_nth]
      simp [nth, List.getD, List.getElem?_drop]
    have hi : (i : Int) < 16 := by omega
    have hi2 : i < 17 := by omega
    have t0 : (16 + (i : Int)).toNat = 16 + i := by omega
    have ih := ih0 (i + 1) fu _ (by omega) (by omega) hdg.2
    rw [ob, tab_succ, ← ob, List.map_append, List.map_cons, List.map_nil, gv_snoc, gm_snoc, ← hdg.1] at ih
    rw [hkn] at ih hdg
    have gA2 := gA i hi2
    have hl := ob_len (A + K) i
    have x1 : A / 256 ^ i % 256 < 256 := Nat.mod_lt _ (by omega)
    have y1 := (nth key (16 + i)).toNat_lt
    obtain ⟨x, hx⟩ : ∃ x, A / 256 ^ i % 256 = x := ⟨_, rfl⟩
    rw [hx] at ih gA2 x1
    obtain ⟨y, hy⟩ : ∃ y, (nth key (16 + i)).toNat = y := ⟨_, rfl⟩
    rw [hy] at ih y1
    have t1 : ((c : Int) + (x : Int) + (y : Int)).tmod 256 = (((c + (x + y)) % 256 : Nat) : Int) := by
      rw [Int.tmod_eq_emod_of_nonneg (by omega)]; omega
    have t2 : ((c : Int) + (x : Int) + (y : Int)).tdiv 256 = (((c + (x + y)) / 256 : Nat) : Int) := by
      rw [Int.tdiv_eq_ediv_of_nonneg (by omega)]; omega
    obtain ⟨w, hw⟩ : ∃ w, (c + (x + y)) % 256 = w := ⟨_, rfl⟩
    obtain ⟨v, hv⟩ : ∃ v, (c + (x + y)) / 256 = v := ⟨_, rfl⟩
    rw [hw] at t1 ih
    rw [hv] at t2 ih
    have hw2 : w < 256 := by omega
    have e1 : low8 (BitVec.ofInt 8 (w : Int)) = UInt8.ofNat w := by
      apply UInt8.toNat_inj.1
      rw [low8_toNat, BitVec.toNat_ofInt, UInt8.toNat_ofNat']
      omega
    have e2 : low8 (BitVec.ofNat 8 w) = UInt8.ofNat w := by
      apply UInt8.toNat_inj.1
      rw [low8_toNat, BitVec.toNat_ofNat, UInt8.toNat_ofNat']
      omega
    simp only [ci] at gA2
    obtain ⟨B, hB⟩ : ∃ B : UInt8, UInt8.ofNat w = B := ⟨_, rfl⟩
    rw [hB] at e1 e2 ih
    have hv2 : v ≤ 2 := by omega
    clear hB hw hv hx hdg hc hkn hX ih0
    clear hK
    generalize dig A = DA at *
    rw [rnd0_some]
    conv => lhs; arg 2; arg 1; rw [s20_b3]
    by_cases h2 : i = 0
    · have ho : (ob (A + K) i).map byteAV = [] := by rw [h2]; rfl
      rw [ho] at ih ⊢
      rw [gv_nil, gm_nil]
      simp only [List.nil_append, List.length_nil] at ih
      simpa (disch := omega) [-List.getElem?_map, hi, hi2, gA2, lA, t0, t1, t2, hy, e1, e2, hk, byteAt_lt, if_pos, IntWalk.i64_in] using ih
    · have hne := ob_ne (A + K) i (by omega)
      simpa (disch := omega) [-List.getElem?_map, gv_ne _ _ _ hne, gm_ne _ _ _ hne, hi, hi2, gA2, lA, hl, t0, t1, t2, hy, e1, e2, hk, byteAt_lt, if_pos, IntWalk.i64_in] using ih

theorem refsum_ev {SP : SProg} {n17 n20 n33 n34 n43 n55 : Nat} (h20 : SP.fn n20 = some (s20 n17 n33 n34)) (h17 : SP.fn n17 = some s17) (h34 : SP.fn n34 = some (s34 n33)) (h33 : SP.fn n33 = some (s33 n43)) (h43 : SP.fn n43 = some (s43 n55)) (h55 : SP.fn n55 = some s55) (k : Nat) (M : Mem) (key s : List UInt8) (hs : s.length < 2 ^ 48) :
    callFn SP (k + 5) n20 [.str key, .str s] M = some (.tuple [.str (sumR key s).1, .int .i64 (sumR key s).2], [], M) := by
  rw [call_fn (h20.trans rfl) (by simp)]
  rw [sumR]
  by_cases hk : key.length = 32
  · have hk2 : (key.length : Int) = 32 := by omega
    by_cases hl : s.length ≤ 65536
    · have hl2 : ¬ (65536 : Int) < s.length := by omega
      rw [if_pos hk, if_pos hl]
      have hkt : (key.take 16).length = 16 := by rw [List.length_take]; omega
      have hcl := fun k M => refclamp_ev h17 k M (key.take 16)
      rw [clampR, if_pos hkt] at hcl
      have hcb := clampB_len (key.take 16)
      have hlt := le_lt (clampB (key.take 16))
      rw [hcb] at hlt
      have tn := tag_nat key s hk
      have q0 := l20_0 (callFn SP (k + 4)) M key s (clampB (key.take 16)) hcb (dig 0) 16 0 17 rfl (by omega)
      have q1 := l20_1 h34 h33 h43 h55 k M key s hl (le (clampB (key.take 16))) (Nat.lt_trans hlt (by decide)) s.length 0 (s.length + 1) 0 (by omega) (by omega) (by decide) (by omega)
      rw [List.drop_zero] at q1
      have q3 := l20_3 (callFn SP (k + 4)) M key hk (accN (le (clampB (key.take 16))) s.length s 0) (le (key.drop 16)) rfl 16 0 17 0 rfl (by omega) (by rw [Nat.pow_zero, Nat.mod_one, Nat.mod_one])
      have hob := ob_le (accN (le (clampB (key.take 16))) s.length s 0 + le (key.drop 16)) 16
      have hol := ob_len (accN (le (clampB (key.take 16))) s.length s 0 + le (key.drop 16)) 16
      have hT : ob (accN (le (clampB (key.take 16))) s.length s 0 + le (key.drop 16)) 16 = tagC key s := le_inj _ _ (by rw [hol, tn.2]) (by rw [hob, tn.1])
      rw [hT] at q3
      rw [rp_zero, show (dig 0).map ci = [.int .i64 0, .int .i64 0, .int .i64 0, .int .i64 0, .int .i64 0, .int .i64 0, .int .i64 0, .int .i64 0, .int .i64 0, .int .i64 0, .int .i64 0, .int .i64 0, .int .i64 0, .int .i64 0, .int .i64 0, .int .i64 0, .int .i64 0] from rfl] at q0
      rw [show (ob (accN (le (clampB (key.take 16))) s.length s 0 + le (key.drop 16)) 0).map byteAV = [] from rfl, gv_nil, gm_nil] at q3
      rw [show (dig 0).map ci = [.int .i64 0, .int .i64 0, .int .i64 0, .int .i64 0, .int .i64 0, .int .i64 0, .int .i64 0, .int .i64 0, .int .i64 0, .int .i64 0, .int .i64 0, .int .i64 0, .int .i64 0, .int .i64 0, .int .i64 0, .int .i64 0, .int .i64 0] from rfl] at q1
      have tl := tn.2
      generalize tagC key s = T at *
      generalize accN (le (clampB (key.take 16))) s.length s 0 = A at *
      generalize dig (le (clampB (key.take 16))) = DR at *
      generalize clampB (key.take 16) = H at *
      generalize dig A = DA at *
      simp (disch := omega) [hk, hk2, hl, hl2, hcl, if_pos]
      rw [ev_loop 17 (by simp) q0 (by omega)]
      simp (disch := omega) []
      rw [ev_loop (s.length + 1) (by simp) q1 (by omega)]
      simp (disch := omega) []
      rw [ev_loop 17 (by simp) q3 (by omega)]
      simp (disch := omega) [tl]
    · have hl2 : (65536 : Int) < s.length := by omega
      rw [if_pos hk, if_neg hl]
      simp (disch := omega) [hk, hk2, hl, hl2, if_pos]
  · have hk2 : ¬ (key.length : Int) = 32 := by omega
    rw [if_neg hk]
    simp (disch := omega) [hk, hk2, if_pos]
end Go.Det.PR
