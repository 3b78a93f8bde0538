/-
  POLY, part C: the key's second half is added.
-/
import Derived.Test.YtpaagjjgmlmngaaA
import Derived.Test.YtpaagjjgmlmngaaLibPF
set_option maxRecDepth 100000
set_option maxHeartbeats 4000000
set_option linter.unusedSimpArgs false
set_option linter.unusedVariables false
namespace Go.Proofs.Ytpaagjjgmlmngaa
open Go.Det Go.Det.P

theorem l7 (C : Det.Calls) (M : Mem) (a b add : List UInt8) (ha : a.length = 16) (hb : b.length = 16) (hd : add.length = 16) (h : le b = (le a + le add) % 2 ^ 128) (j : Nat) : ∀ (i n : Nat) (c : Nat), i + j = 16 → j < n → c = (le a % 256 ^ i + le add % 256 ^ i) / 256 ^ i →
    fgt a7_0 (rnd0 (some (e7_0 (.ptr (some ⟨M.length, 4, 16, 0⟩)) (.str a) (.str b) (.int .i64 c) (.int .i64 i), mk [(4, .cells (add.map byteAV) true true)] :: M)) k7_0 C s7_b0 n) =
      some (.exit 0, x7_0 .dead, mk [] :: M) := by
  induction j with
  | zero =>
    intro i n c h1 hn hc
    obtain rfl : i = 16 := by omega
    rw [rnd0_some]
    conv => lhs; arg 2; arg 1; rw [s7_b0]
    simp
  | succ j ih0 =>
    intro i n c h1 hn hc
    obtain ⟨n, rfl⟩ : ∃ m, n = m + 1 := ⟨n - 1, by omega⟩
    have hX : 0 < 256 ^ i := Nat.pow_pos (by omega)
    have hdg := dig_add (le a) (le add) (256 ^ i) hX
    rw [← hc, ← le_nth a i, ← le_nth add i, ← Nat.pow_succ] at hdg
    have hi : (i : Int) < 16 := by omega
    have hi2 : i < 16 := by omega
    have hc1 : c ≤ 1 := by
      rw [hc]
      have m1 := Nat.mod_lt (le a) hX
      have m2 := Nat.mod_lt (le add) hX
      exact Nat.le_of_lt_succ (Nat.div_lt_of_lt_mul (by omega))
    have ih := ih0 (i + 1) n ((c + ((nth a i).toNat + (nth add i).toNat)) / 256) (by omega) (by omega) hdg.2
    have hbi : (nth b i).toNat = (c + ((nth a i).toNat + (nth add i).toNat)) % 256 := by
      rw [le_nth b i, h, hdg.1]
      have e : (2 : Nat) ^ 128 = 256 ^ i * 256 ^ (16 - i) := by rw [← Nat.pow_add, show i + (16 - i) = 16 by omega]
      have e2 : 256 ^ (16 - i) = 256 * 256 ^ (15 - i) := by rw [show 16 - i = (15 - i) + 1 by omega, Nat.pow_succ']
      rw [e, Nat.mod_mul_right_div_self, e2, Nat.mod_mul_right_mod]
    have la := (nth a i).toNat_lt
    have ld := (nth add i).toNat_lt
    have g : (add.map byteAV)[i]? = some (byteAV (nth add i)) := by rw [List.getElem?_map, getElem?_nth _ i (by omega)]; rfl
    rw [rnd0_some]
    conv => lhs; arg 2; arg 1; rw [s7_b0]
    obtain ⟨x, hx⟩ : ∃ x, (nth a i).toNat = x := ⟨_, rfl⟩
    obtain ⟨y, hy⟩ : ∃ y, (nth add i).toNat = y := ⟨_, rfl⟩
    rw [hx, hy] at hbi ih
    rw [hx] at la
    rw [hy] at ld
    have e1 : low8 (BitVec.ofInt 8 ((c : Int) + ((x : Int) + (y : Int)))) = nth b i := by
      apply UInt8.toNat_inj.1
      rw [low8_toNat, hbi, BitVec.toNat_ofInt]
      omega
    have e2 : abin .shr (.int .i64 ((c : Int) + ((x : Int) + (y : Int)))) (u64 8#64) = some (.int .i64 (((c + (x + y)) / 256 : Nat) : Int)) := by
      rw [show u64 8#64 = .int .u64 8 from rfl, ab_shr]
      show some (AV.int .i64 (((c : Int) + ((x : Int) + (y : Int))).fdiv 256)) = _
      rw [Int.fdiv_eq_ediv_of_nonneg _ (by omega)]
      congr 2
    simpa (disch := omega) [-List.getElem?_map, hi, hi2, ha, hb, hd, g, hx, hy, byteAt_lt, if_pos, IntWalk.i64_in, e1, e2] using ih

theorem law7 (k : Nat) (M : Mem) (r s add : List UInt8) (hr : r.length = 16) (hd : add.length = 16) : callFn SP (k + 7) 7 [.agg (r.map byteAV), .str s, .agg (add.map byteAV)] M = some (.bool true, [], M) := by
  obtain ⟨N, e1, e2, e3, e4⟩ : ∃ N : Nat, min (s.length : Int) 500 = N ∧ N ≤ s.length ∧ min s.length 500 = N ∧ N ≤ 500 := ⟨min 500 s.length, by omega, by omega, by omega, by omega⟩
  obtain ⟨S, hS⟩ : ∃ S, s.take N = S := ⟨_, rfl⟩
  have e5 : S.length = N := by rw [← hS, List.length_take]; omega
  have hka : (r ++ List.replicate 16 0).length = 32 := by simp [hr]
  have hkb : (r ++ add).length = 32 := by simp [hr, hd]
  have h1 := fun k M => sum_ok k M (r ++ List.replicate 16 0) S hka (by omega)
  have h2 := fun k M => sum_ok k M (r ++ add) S hkb (by omega)
  have ta := tag_nat (r ++ List.replicate 16 0) S hka
  have tb := tag_nat (r ++ add) S hkb
  rw [List.take_left' hr, List.drop_left' hr, le_rep] at ta
  rw [List.take_left' hr, List.drop_left' hr] at tb
  generalize tagC (r ++ List.replicate 16 0) S = A at *
  generalize tagC (r ++ add) S = B at *
  have hle : le B = (le A + le add) % 2 ^ 128 := by rw [ta.1, tb.1, Nat.add_zero, Nat.mod_add_mod]
  have q := l7 (callFn SP (k + 6)) M A B add ta.2 tb.2 hd hle 16 0 17 0 rfl (by omega) (by rw [Nat.pow_zero, Nat.mod_one, Nat.mod_one])
  have b1 : ∀ (x : List UInt8) (n : Nat), bytesOf ((x.map byteAV).take n) = some (x.take n) := fun x n => by rw [← List.map_take, bytesOf_map]
  have tk : ∀ (x : List UInt8), x.length = 16 → x.take 16 = x := fun x h => List.take_of_length_le (by omega)
  have z1 := bytesOf_rep 16
  have la := ta.2
  have lb := tb.2
  simp only [List.reduceReplicate] at z1 h1
  rw [call_fn (by rfl) (by simp)]
  simp (disch := omega) [hr, hd, e1, e2, e3, hS, b1, tk, z1, h1, h2, la, lb, wakes, if_pos]
  rw [ev_loop 17 (by simp) q (by omega)]
  simp (disch := omega) []

theorem ev_PolySecond (s : Scope) (args : List AV) (h : ArgsShp s [.arr 16 (.int .u8), .str, .arr 16 (.int .u8)] args) : ∃ k M', callFn SP k 7 args [s, mk []] = some (.bool true, [], M') := by
  obtain ⟨_, _, rfl, h1, _, _, rfl, h2, _, _, rfl, h3, rfl⟩ := h
  obtain ⟨r, hr, rfl⟩ := ArgShp_arr8 h1
  obtain ⟨x, rfl, hx⟩ := ArgShp_str h2
  obtain ⟨add, ha, rfl⟩ := ArgShp_arr8 h3
  exact ⟨7, _, law7 0 [s, mk []] r x add hr ha⟩
end Go.Proofs.Ytpaagjjgmlmngaa
