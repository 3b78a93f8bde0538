/-
  Texts combined: what words.Xor and the document's Xor come to.
-/
import Derived.Test.YtjaloajnlpepcaaG
import Derived.Test.YtjaloajnlpepcaaDetT
namespace Go.Proofs.Ytjaloajnlpepcaa
open Go.Det
set_option maxRecDepth 100000
set_option linter.unusedSimpArgs false
set_option linter.unusedVariables false

/-- The combined text, as far as i. -/
def xs (a b : List UInt8) (n i : Nat) : List UInt8 := (List.range n).map fun k => if k < i then nth a k ^^^ nth b k else 0

theorem xs_set (a b : List UInt8) (n i : Nat) (h : i < n) : (xs a b n i).set i (nth a i ^^^ nth b i) = xs a b n (i + 1) := by
  refine nth_ext (by simp [xs]) fun k hk => ?_
  simp [xs] at hk
  rw [nth_set _ _ _ _ (by simpa [xs] using hk)]
  simp only [xs]
  rw [nth_range _ _ _ hk, nth_range _ _ _ hk]
  by_cases h1 : i = k
  · subst h1; simp
  · rw [if_neg h1]
    by_cases h2 : k < i
    · rw [if_pos h2, if_pos (by omega)]
    · rw [if_neg h2, if_neg (by omega)]

theorem xs_len (a b : List UInt8) (n i : Nat) : (xs a b n i).length = n := by simp [xs]

def xorT (a b : List UInt8) : List UInt8 := (List.range (min a.length b.length)).map fun k => nth a k ^^^ nth b k

theorem xorT_len (a b : List UInt8) : (xorT a b).length = min a.length b.length := by simp [xorT]

theorem xs_all (a b : List UInt8) (n : Nat) (h : n = min a.length b.length) : xs a b n n = xorT a b := by
  subst h
  simp only [xs, xorT]
  refine List.map_congr_left fun k hk => ?_
  rw [if_pos (List.mem_range.1 hk)]

theorem l10 (C : Det.Calls) (M : Mem) (a b : List UInt8) (N : Nat) (ha : N ≤ a.length) (hb : N ≤ b.length) (hN : N < 2 ^ 45) : ∀ (j i n : Nat), i + j = N → j < n →
    fgt a10_0 (rnd0 (some (e10_0 (.str a) (.str b) (.slice (some ⟨M.length, 4020, N, 0⟩) N 1) (.int .i64 N) (.int .i64 i), mk [(4020, .cells ((xs a b N i).map byteAV) true true)] :: M)) k10_0 C s10_b0 n) =
      some (.exit 0, x10_0 (.slice (some ⟨M.length, 4020, N, 0⟩) N 1), mk [(4020, .cells ((xs a b N N).map byteAV) true true)] :: M)
  | 0, i, n, h, hn => by
    obtain rfl : i = N := by omega
    rw [rnd0_some]
    conv => lhs; arg 2; arg 1; rw [s10_b0]
    simp [-List.map_set]
  | j + 1, i, n, h, hn => by
    obtain ⟨n, rfl⟩ : ∃ m, n = m + 1 := ⟨n - 1, by omega⟩
    have hi : i < N := by omega
    have ih := l10 C M a b N ha hb hN j (i + 1) n (by omega) (by omega)
    rw [rnd0_some]
    conv => lhs; arg 2; arg 1; rw [s10_b0]
    simpa (disch := omega) [-List.map_set, hi, byteAt_lt, xs_len, if_pos, xs_set, IntWalk.i64_in] using ih

theorem xor_ev (k : Nat) (M : Mem) (a b : List UInt8) (h : min a.length b.length < 2 ^ 45) :
    callFn SP (k + 1) 10 [.str a, .str b] M = some (.str (xorT a b), [], M) := by
  rw [call_fn (by rfl) (by simp)]
  have h0 : List.replicate (min a.length b.length) (byteAV 0) = (xs a b (min a.length b.length) 0).map byteAV := by
    refine List.ext_getElem (by simp [xs]) fun i h1 h2 => ?_
    simp [xs]
  have hl := xs_len a b (min a.length b.length) (min a.length b.length)
  simp (disch := omega) [-List.map_set, if_pos, h0]
  rw [ev_loop (min a.length b.length + 1) (by simp [xs_len]) (l10 _ M a b _ (by omega) (by omega) h _ 0 _ (Nat.zero_add _) (by omega)) (by omega)]
  simp (disch := omega) [-List.map_set, if_pos, xs_all, xorT_len]
  rw [List.take_of_length_le (by simp [xorT_len])]
  simp (disch := omega) [-List.map_set, if_pos]

/-! ### bit by bit -/
theorem xor_step (x y : Nat) : x ^^^ y = (if x % 2 ≠ y % 2 then 1 else 0) + 2 * ((x / 2) ^^^ (y / 2)) := by
  have h1 : (x ^^^ y) / 2 = (x / 2) ^^^ (y / 2) := by
    have := Nat.xor_div_two_pow (a := x) (b := y) (n := 1)
    simpa using this
  have h2 : (x ^^^ y) % 2 = (x % 2) ^^^ (y % 2) := by
    have := Nat.xor_mod_two_pow (a := x) (b := y) (n := 1)
    simpa using this
  rw [← h1]
  have h3 := Nat.div_add_mod (x ^^^ y) 2
  clear h1
  generalize x ^^^ y = z at h2 h3 ⊢
  have hx : x % 2 = 0 ∨ x % 2 = 1 := by omega
  have hy : y % 2 = 0 ∨ y % 2 = 1 := by omega
  rcases hx with hx | hx <;> rcases hy with hy | hy <;> rw [hx, hy] at h2 ⊢ <;> simp at h2 ⊢ <;> omega

theorem half8 (x : UInt8) : (x / 2).toNat = x.toNat / 2 := by rw [UInt8.toNat_div]; rfl
theorem par8 (x y : UInt8) : x % 2 = y % 2 ↔ x.toNat % 2 = y.toNat % 2 := by
  rw [← UInt8.toNat_inj, UInt8.toNat_mod, UInt8.toNat_mod]; rfl

/-- What is left of two bytes after i rounds, and the sum so far. -/
theorem l24 (C : Det.Calls) (M : Mem) (a b : UInt8) : ∀ (j i n : Nat) (x y s p : UInt8), i + j = 8 → j < n → p.toNat = 2 ^ i % 256 → x.toNat < 2 ^ j → y.toNat < 2 ^ j → s.toNat + 2 ^ i * (x.toNat ^^^ y.toNat) = (a ^^^ b).toNat →
    fgt a24_0 (rnd0 (some (e24_0 (byteAV x) (byteAV y) (byteAV s) (byteAV p) (.int .i64 i), mk [] :: M)) k24_0 C s24_b0 n) =
      some (.exit 0, x24_0 (byteAV (a ^^^ b)), mk [] :: M)
  | 0, i, n, x, y, s, p, h, hn, hp, hx, hy, hs => by
    obtain rfl : i = 8 := by omega
    have h1 : x.toNat = 0 := by omega
    have h2 : y.toNat = 0 := by omega
    obtain rfl : s = a ^^^ b := by
      apply b8_eq
      rw [h1, h2] at hs
      simpa using hs
    obtain rfl : x = 0 := b8_eq h1
    obtain rfl : y = 0 := b8_eq h2
    obtain rfl : p = 0 := b8_eq hp
    rw [rnd0_some]
    conv => lhs; arg 2; arg 1; rw [s24_b0]
    simp
  | j + 1, i, n, x, y, s, p, h, hn, hp, hx, hy, hs => by
    obtain ⟨n, rfl⟩ : ∃ m, n = m + 1 := ⟨n - 1, by omega⟩
    have hi : i < 8 := by omega
    have hst := xor_step x.toNat y.toNat
    have hp2 : (2 * p).toNat = 2 ^ (i + 1) % 256 := by
      rw [UInt8.toNat_mul, hp, Nat.pow_succ]
      show 2 * (2 ^ i % 256) % 256 = _
      omega
    have hx2 : (x / 2).toNat < 2 ^ j := by rw [half8]; rw [Nat.pow_succ] at hx; omega
    have hy2 : (y / 2).toNat < 2 ^ j := by rw [half8]; rw [Nat.pow_succ] at hy; omega
    have hlt := b8_lt (a ^^^ b)
    have hpi : 2 ^ i % 256 = 2 ^ i := Nat.mod_eq_of_lt (Nat.pow_lt_pow_right (by omega) hi)
    rw [rnd0_some]
    conv => lhs; arg 2; arg 1; rw [s24_b0]
    by_cases hxy : x % 2 = y % 2
    · have ih := l24 C M a b j (i + 1) n (x / 2) (y / 2) s (2 * p) (by omega) (by omega) hp2 hx2 hy2 (by
        rw [half8, half8, ← hs, hst, if_neg (by simpa [par8] using hxy), Nat.pow_succ]
        rw [Nat.zero_add, Nat.mul_assoc])
      simpa (disch := omega) [hi, hxy, IntWalk.i64_in] using ih
    · have ih := l24 C M a b j (i + 1) n (x / 2) (y / 2) (s + p) (2 * p) (by omega) (by omega) hp2 hx2 hy2 (by
        rw [hst, if_pos (by simpa [par8] using hxy), Nat.mul_add, ← Nat.mul_assoc, ← Nat.pow_succ, Nat.mul_one] at hs
        rw [half8, half8, UInt8.toNat_add, hp, hpi]
        generalize 2 ^ (i + 1) * (x.toNat / 2 ^^^ y.toNat / 2) = w at hs ⊢
        show (s.toNat + 2 ^ i) % 256 + w = _
        generalize 2 ^ i = q at hs ⊢
        omega)
      simpa (disch := omega) [hi, hxy, IntWalk.i64_in] using ih

theorem unlike_ev (k : Nat) (M : Mem) (a b : UInt8) : callFn SP (k + 1) 24 [byteAV a, byteAV b] M = some (byteAV (a ^^^ b), [], M) := by
  rw [call_fn (by rfl) (by simp)]
  simp (disch := omega) [if_pos]
  rw [ev_loop 9 (by simp) (l24 _ M a b 8 0 9 a b 0 1 rfl (by omega) rfl (by simpa using b8_lt a) (by simpa using b8_lt b) (by simp)) (by omega)]
  simp

end Go.Proofs.Ytjaloajnlpepcaa
