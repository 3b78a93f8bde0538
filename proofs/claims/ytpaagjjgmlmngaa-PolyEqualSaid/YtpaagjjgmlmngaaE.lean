/-
  Tags held against each other.
-/
import Derived.Test.YtpaagjjgmlmngaaG
import Derived.Test.YtpaagjjgmlmngaaDetU
namespace Go.Proofs.Ytpaagjjgmlmngaa
open Go.Det
set_option maxRecDepth 100000
set_option maxHeartbeats 4000000
set_option linter.unusedSimpArgs false
set_option linter.unusedVariables false

def dd (a b : List UInt8) : Nat → UInt8
  | 0 => 0
  | i + 1 => dd a b i ||| (nth a i ^^^ nth b i)

theorem dd_zero (a b : List UInt8) : ∀ n, dd a b n = 0 ↔ ∀ k, k < n → nth a k = nth b k
  | 0 => by simp [dd]
  | n + 1 => by
    rw [dd, UInt8.or_eq_zero_iff, dd_zero a b n, UInt8.xor_eq_zero_iff]
    constructor
    · rintro ⟨h1, h2⟩ k hk
      by_cases h : k = n
      · rw [h]; exact h2
      · exact h1 k (by omega)
    · intro h
      exact ⟨fun k hk => h k (by omega), h n (by omega)⟩

theorem l15 (C : Det.Calls) (M : Mem) (a b : List UInt8) (N : Nat) (ha : a.length = N) (hb : b.length = N) (hN : N < 2 ^ 48) (j : Nat) : ∀ (i n : Nat), i + j = N → j < n →
    fgt a15_0 (rnd0 (some (e15_0 (.str a) (.str b) (byteAV (dd a b i)) (.int .i64 N) (.int .i64 i), mk [] :: M)) k15_0 C s15_b0 n) = some (.exit 0, x15_0 (byteAV (dd a b N)), mk [] :: M) := by
  induction j with
  | zero =>
    intro i n h hn
    obtain rfl : i = N := by omega
    rw [rnd0_some]
    conv => lhs; arg 2; arg 1; rw [s15_b0]
    simp
  | succ j ih0 =>
    intro i n h hn
    obtain ⟨n, rfl⟩ : ∃ m, n = m + 1 := ⟨n - 1, by omega⟩
    have hi : i < N := by omega
    have ih := ih0 (i + 1) n (by omega) (by omega)
    rw [show dd a b (i + 1) = dd a b i ||| (nth a i ^^^ nth b i) from rfl] at ih
    rw [rnd0_some]
    conv => lhs; arg 2; arg 1; rw [s15_b0]
    simpa (disch := omega) [hi, byteAt_lt, IntWalk.i64_in] using ih

theorem equal_ev (k : Nat) (M : Mem) (a b : List UInt8) (hN : a.length < 2 ^ 48) : callFn SP (k + 1) 15 [.str a, .str b] M = some (.bool (decide (a = b)), [], M) := by
  rw [call_fn (by rfl) (by simp)]
  by_cases h : a.length = b.length
  · have e3 : (a.length : Int) = b.length := by omega
    have hl := l15 (callFn SP k) M a b b.length h rfl (by omega) b.length 0 (b.length + 1) (Nat.zero_add _) (Nat.lt_succ_self _)
    rw [show dd a b 0 = 0 from rfl] at hl
    have hd : (dd a b b.length = 0) = (a = b) := by
      rw [dd_zero]
      refine propext ⟨fun h1 => nth_ext h fun i hi => h1 i (by omega), fun h1 => by rw [h1]; simp⟩
    simp (disch := omega) [e3]
    rw [ev_loop (b.length + 1) (by simp) hl (by omega)]
    simp [hd]
  · have e3 : (a.length : Int) ≠ b.length := by omega
    have hne : a ≠ b := fun h0 => h (by rw [h0])
    simp (disch := omega) [e3, hne]

theorem law3 (k : Nat) (M : Mem) (s : Scope) (a b : List UInt8) (ha : a.length ≤ reachBytes) : callFn SP (k + 2) 3 [.str a, .str b] (s :: M) = some (.bool true, [], s :: M) := by
  have hm : reachBytes = 140737488351232 := rfl
  rw [call_fn (by rfl) (by simp)]
  have hne : a ≠ a ++ [120] := fun h => by simpa using congrArg List.length h
  simp (disch := first | omega | (simp; done) | (simp; omega)) [equal_ev, if_pos, hne]

theorem ev_PolyEqual (s : Scope) (args : List AV) (h : ArgsShp s [.str, .str] args) : ∃ k M', callFn SP k 3 args [s, mk []] = some (.bool true, [], M') := by
  obtain ⟨_, _, rfl, h1, _, _, rfl, h2, rfl⟩ := h
  obtain ⟨a, rfl, ha⟩ := ArgShp_str h1
  obtain ⟨b, rfl, _⟩ := ArgShp_str h2
  exact ⟨2, _, law3 0 [mk []] s a b ha⟩
end Go.Proofs.Ytpaagjjgmlmngaa
