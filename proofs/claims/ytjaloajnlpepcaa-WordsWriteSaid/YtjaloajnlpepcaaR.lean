/-
  The document's words of a text, as a whole; what the laws hold first.
-/
import Derived.Test.YtjaloajnlpepcaaS
namespace Go.Proofs.Ytjaloajnlpepcaa
open Go.Det
set_option maxRecDepth 100000
set_option maxHeartbeats 4000000
set_option linter.unusedSimpArgs false
set_option linter.unusedVariables false

theorem l13_0 (k : Nat) (M : Mem) (big : Bool) (s : List UInt8) (N : Nat) (hs : s.length = 4 * N) (hN : N < 2 ^ 40) (j : Nat) : ∀ (i n : Nat), i + j = N → j < n →
    fgt a13_0 (rnd0 (some (e13_0 (.str s) (.bool big) (gv M.length 60012 ((tab (wat big s) i).map u32)) (.int .i64 (4 * (i : Int))), mk (gm 60012 true ((tab (wat big s) i).map u32)) :: M)) k13_0 (callFn SP k) s13_b0 n) =
      some (.exit 0, x13_0 (gv M.length 60012 ((tab (wat big s) N).map u32)), mk (gm 60012 true ((tab (wat big s) N).map u32)) :: M) := by
  induction j with
  | zero =>
    intro i n h hn
    obtain rfl : i = N := by omega
    rw [rnd0_some]
    conv => lhs; arg 2; arg 1; rw [s13_b0]
    have e1 : ¬ 4 * (i : Int) < s.length := by omega
    by_cases h0 : i = 0
    · subst h0; simp [tab_zero, gv_nil, gm_nil, hs]
    · have hne := tab_ne (wat big s) u32 i (by omega)
      simp [gv_ne _ _ _ hne, gm_ne _ _ _ hne, hs]
  | succ j ih0 =>
    intro i n h hn
    obtain ⟨n, rfl⟩ : ∃ m, n = m + 1 := ⟨n - 1, by omega⟩
    have hi : i < N := by omega
    have ih := ih0 (i + 1) n (by omega) (by omega)
    rw [tab_succ, List.map_append, List.map_cons, List.map_nil, gv_snoc, gm_snoc] at ih
    have hl := l13_1 (callFn SP k) M big s ((tab (wat big s) i).map u32) i N hs hi hN 4 0 5 rfl (by omega)
    rw [hor_four, show hor big s i 0 = 0#32 from rfl] at hl
    have e4 : 4 * (i : Int) + 4 = 4 * ((i : Int) + 1) := by omega
    have e1 : 4 * (i : Int) < s.length := by omega
    rw [rnd0_some]
    conv => lhs; arg 2; arg 1; rw [s13_b0]
    by_cases h0 : i = 0
    · subst h0
      simp only [tab_zero, List.map_nil, gv_nil, gm_nil] at hl ih ⊢
      simp at e1
      simp (disch := omega) [e1]
      rw [ev_loop 5 (by simp) hl (by omega)]
      simpa (disch := omega) [IntWalk.i64_in] using ih
    · have hne := tab_ne (wat big s) u32 i (by omega)
      simp only [gv_ne _ _ _ hne, gm_ne _ _ _ hne] at hl ih ⊢
      simp (disch := omega) [e1]
      rw [ev_loop 5 (by simp) hl (by omega)]
      simpa (disch := omega) [IntWalk.i64_in, e4, if_pos, if_neg] using ih

theorem refwords_ev (k : Nat) (M : Mem) (big : Bool) (s : List UInt8) (N : Nat) (hs : s.length = 4 * N) (hN : N < 2 ^ 40) (h0 : 0 < N) :
    callFn SP (k + 1) 13 [.str s, .bool big] M = some (.tuple [.slice (some ⟨M.length, 0, N, 0⟩) N 1, .int .i64 0], [.cells ((tab (wat big s) N).map u32) true true], M) := by
  rw [call_fn (by rfl) (by simp)]
  have e1 : ((s.length : Int) % 4) = 0 := by omega
  have hl := l13_0 k M big s N hs hN N 0 (N + 1) (Nat.zero_add _) (Nat.lt_succ_self _)
  have hne := tab_ne (wat big s) u32 N h0
  simp only [tab_zero, List.map_nil, gv_nil, gm_nil, gv_ne _ _ _ hne, gm_ne _ _ _ hne] at hl
  simp (disch := omega) [e1]
  rw [ev_loop (N + 1) (by simp) hl (by omega)]
  simp (disch := omega)

theorem refwords_nil (k : Nat) (M : Mem) (big : Bool) :
    callFn SP (k + 1) 13 [.str [], .bool big] M = some (.tuple [.slice none 0 0, .int .i64 0], [], M) := by
  rw [call_fn (by rfl) (by simp)]
  have hl := l13_0 k M big [] 0 rfl (by omega) 0 0 1 (Nat.zero_add _) (Nat.lt_succ_self _)
  simp only [tab_zero, List.map_nil, gv_nil, gm_nil] at hl
  simp (disch := omega)
  rw [ev_loop 1 (by simp) hl (by omega)]
  simp (disch := omega)

theorem refwords_bad (k : Nat) (M : Mem) (big : Bool) (s : List UInt8) (hs : s.length % 4 ≠ 0) :
    callFn SP (k + 1) 13 [.str s, .bool big] M = some (.tuple [.slice none 0 0, .int .i64 7], [], M) := by
  rw [call_fn (by rfl) (by simp)]
  have e1 : ((s.length : Int) % 4) ≠ 0 := by omega
  simp (disch := omega) [e1]

theorem wakes_ev (k : Nat) (M : Mem) : callFn SP (k + 4) 15 [] M = some (.bool true, [], M) := by
  rw [call_fn (by rfl) (by simp)]
  have h1 := fun M => little_ev k M [1, 2, 3, 4] 1 rfl (by omega)
  have h2 := fun M => big_ev k M [1, 2, 3, 4] 1 rfl (by omega)
  have h3 := fun M => left_ev (k + 2) M 2147483649#32 1
  rw [show tab (wat false [1, 2, 3, 4]) 1 = [67305985#32] from by decide +kernel, List.map_cons, List.map_nil] at h1
  rw [show tab (wat true [1, 2, 3, 4]) 1 = [16909060#32] from by decide +kernel, List.map_cons, List.map_nil] at h2
  rw [show rot 2147483649#32 (tn 1) = 3#32 from by decide +kernel] at h3
  simp (disch := omega) [h1, h2, h3]

end Go.Proofs.Ytjaloajnlpepcaa
