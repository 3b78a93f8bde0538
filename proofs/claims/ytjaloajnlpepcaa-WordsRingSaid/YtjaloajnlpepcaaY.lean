/-
  The document's combined texts, and the laws on them.
-/
import Derived.Test.YtjaloajnlpepcaaX
import Derived.Test.YtjaloajnlpepcaaDetS
namespace Go.Proofs.Ytjaloajnlpepcaa
open Go.Det
set_option maxRecDepth 100000
set_option linter.unusedSimpArgs false
set_option linter.unusedVariables false

def pre (a b : List UInt8) (i : Nat) : List UInt8 := (List.range i).map fun k => nth a k ^^^ nth b k
theorem pre_succ (a b : List UInt8) (i : Nat) : pre a b (i + 1) = pre a b i ++ [nth a i ^^^ nth b i] := by simp [pre, List.range_succ]
theorem pre_len (a b : List UInt8) (i : Nat) : (pre a b i).length = i := by simp [pre]
theorem pre_ne (a b : List UInt8) (i : Nat) (h : 0 < i) : (pre a b i).map byteAV ≠ [] := by
  intro h0
  have := congrArg List.length h0
  simp [pre_len] at this
  omega

def g11 (M : Mem) (a b : List UInt8) (i : Nat) : Env × Mem := (e11_0 (.str a) (.str b) (gv M.length 24012 ((pre a b i).map byteAV)) (.int .i64 i), mk (gm 24012 true ((pre a b i).map byteAV)) :: M)

theorem pre_zero (a b : List UInt8) : pre a b 0 = [] := rfl
theorem pre_all (a b : List UInt8) (n : Nat) (h : n = min a.length b.length) : pre a b n = xorT a b := by subst h; rfl

theorem l11 (k : Nat) (M : Mem) (a b : List UInt8) (N : Nat) (hN : N = min a.length b.length) (hb : N < 2 ^ 40) : ∀ (j i n : Nat), i + j = N → j < n →
    fgt a11_0 (rnd0 (some (g11 M a b i)) k11_0 (callFn SP (k + 1)) s11_b0 n) = some (.exit 0, x11_0 (gv M.length 24012 ((pre a b N).map byteAV)), mk (gm 24012 true ((pre a b N).map byteAV)) :: M)
  | 0, i, n, h, hn => by
    obtain rfl : i = N := by omega
    rw [g11, rnd0_some]
    conv => lhs; arg 2; arg 1; rw [s11_b0]
    have hl := pre_len a b i
    by_cases h2 : i = 0
    · by_cases h1 : i < a.length
      · have h3 : ¬ i < b.length := by omega
        subst h2; simp (disch := omega) [pre_zero, gv_nil, gm_nil, h1, h3]
      · subst h2; simp (disch := omega) [pre_zero, gv_nil, gm_nil, h1]
    · have hne := pre_ne a b i (by omega)
      by_cases h1 : i < a.length
      · have h3 : ¬ i < b.length := by omega
        simp (disch := omega) [gv_ne _ _ _ hne, gm_ne _ _ _ hne, h1, h3]
      · simp (disch := omega) [gv_ne _ _ _ hne, gm_ne _ _ _ hne, h1]
  | j + 1, i, n, h, hn => by
    obtain ⟨n, rfl⟩ : ∃ m, n = m + 1 := ⟨n - 1, by omega⟩
    have ih := l11 k M a b N hN hb j (i + 1) n (by omega) (by omega)
    rw [g11, pre_succ, List.map_append, List.map_cons, List.map_nil, gv_snoc, gm_snoc] at ih
    rw [g11, rnd0_some]
    conv => lhs; arg 2; arg 1; rw [s11_b0]
    have hl := pre_len a b i
    by_cases h2 : i = 0
    · subst h2
      simpa (disch := omega) [pre_zero, gv_nil, gm_nil, byteAt_lt, if_pos, if_neg, unlike_ev, IntWalk.i64_in, pre_len] using ih
    · have hne := pre_ne a b i (by omega)
      simpa (disch := omega) [gv_ne _ _ _ hne, gm_ne _ _ _ hne, byteAt_lt, if_pos, if_neg, unlike_ev, IntWalk.i64_in, pre_len] using ih

theorem refxor_ev (k : Nat) (M : Mem) (a b : List UInt8) (h : min a.length b.length < 2 ^ 40) : callFn SP (k + 2) 11 [.str a, .str b] M = some (.str (xorT a b), [], M) := by
  rw [call_fn (by rfl) (by simp)]
  simp (disch := omega) [if_pos]
  have hg := l11 k M a b _ rfl h _ 0 _ (Nat.zero_add _) (Nat.lt_succ_self _)
  rw [ev_loop (min a.length b.length + 1) (by simp [g11, pre_zero, gv_nil, gm_nil]) hg (by omega)]
  by_cases h2 : min a.length b.length = 0
  · rw [h2, pre_zero]
    have he : xorT a b = [] := List.eq_nil_of_length_eq_zero (by rw [xorT_len]; exact h2)
    simp [gv_nil, gm_nil, he]
  · have hne := pre_ne a b _ (Nat.pos_of_ne_zero h2)
    rw [pre_all _ _ _ rfl] at hne ⊢
    have hl := xorT_len a b
    simp (disch := omega) [gv_ne _ _ _ hne, gm_ne _ _ _ hne, xorT_len]

theorem xorT_comm (a b : List UInt8) : xorT a b = xorT b a := by
  simp only [xorT, Nat.min_comm]
  exact List.map_congr_left fun k _ => UInt8.xor_comm _ _

/-- 'cofferdamlaw01.WordsXor'. -/
theorem law3 (k : Nat) (M : Mem) (s : Scope) (a b : List UInt8) : callFn SP (k + 3) 3 [.str a, .str b] (s :: M) = some (.bool true, [], s :: M) := by
  rw [call_fn (by rfl) (by simp)]
  have e1 : xorT [15] [5] = [10] := by decide
  simp (disch := first | omega | (simp; done) | (simp; omega)) [if_pos, xor_ev, refxor_ev, e1, List.length_take]

theorem ev_WordsXor (s : Scope) (args : List AV) (h : ArgsShp s [.str, .str] args) : ∃ k M', callFn SP k 3 args [s] = some (.bool true, [], M') := by
  obtain ⟨_, _, rfl, h1, _, _, rfl, h2, rfl⟩ := h
  obtain ⟨a, rfl, _⟩ := ArgShp_str h1
  obtain ⟨b, rfl, _⟩ := ArgShp_str h2
  exact ⟨3, _, law3 0 [] s a b⟩
end Go.Proofs.Ytjaloajnlpepcaa
