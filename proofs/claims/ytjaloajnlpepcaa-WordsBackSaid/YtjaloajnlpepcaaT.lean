/-
  Lists of words held against each other; the document's words.
-/
import Derived.Test.YtjaloajnlpepcaaU
namespace Go.Proofs.Ytjaloajnlpepcaa
open Go.Det
set_option maxRecDepth 100000
set_option maxHeartbeats 4000000
set_option linter.unusedSimpArgs false
set_option linter.unusedVariables false

theorem l16 (C : Det.Calls) (M : Mem) (d id z d' id' z' : Nat) (rw_ fl rw' fl' : Bool) (r r' : List AV) (l m : List (BitVec 32)) (N : Nat) (h1 : l.length = N) (h2 : m.length = N) (hN : N < 2 ^ 60)
    (hd : d < M.length) (hd' : d' < M.length) (hg : ∀ o, get M ⟨d, id, z, o⟩ = some (.cells (l.map u32 ++ r) rw_ fl)) (hg' : ∀ o, get M ⟨d', id', z', o⟩ = some (.cells (m.map u32 ++ r') rw' fl')) (j : Nat) :
    ∀ (i n : Nat), i + j = N → j < n → (∀ k, k < i → nth l k = nth m k) →
    fgt a16_0 (rnd0 (some (e16_0 (.slice (some ⟨d, id, z, 0⟩) N 1) (.slice (some ⟨d', id', z', 0⟩) N 1) (.int .i64 N) (.int .i64 i), mk [] :: M)) k16_0 C s16_b0 n) =
      if l = m then some (.exit 0, x16_0 .dead, mk [] :: M) else some (.ret, x16_0 (.bool false), mk [] :: M) := by
  have hn1 : d ≠ M.length := by omega
  have hn2 : d' ≠ M.length := by omega
  induction j with
  | zero =>
    intro i n h hn hk
    obtain rfl : i = N := by omega
    rw [rnd0_some]
    conv => lhs; arg 2; arg 1; rw [s16_b0]
    rw [if_pos (nth_ext (by omega) fun k hk2 => hk k (by omega))]
    simp
  | succ j ih0 =>
    intro i n h hn hk
    obtain ⟨n, rfl⟩ : ∃ m, n = m + 1 := ⟨n - 1, by omega⟩
    have hi : i < N := by omega
    have ih := ih0 (i + 1) n (by omega) (by omega)
    have ga := map_app_get u32 l r i (by omega)
    have gb := map_app_get u32 m r' i (by omega)
    rw [rnd0_some]
    conv => lhs; arg 2; arg 1; rw [s16_b0]
    by_cases he : nth l i = nth m i
    · have ih := ih (fun k hk2 => if h : k = i then by rw [h]; exact he else hk k (by omega))
      simpa (disch := omega) [hi, get_low, hd, hd', hg, hg', ga, gb, he, if_pos, hn1, hn2, IntWalk.i64_in] using ih
    · have hne : l ≠ m := fun h => he (by rw [h])
      simp (disch := omega) [hi, get_low, hd, hd', hg, hg', ga, gb, he, if_pos, hn1, hn2, IntWalk.i64_in, hne]


theorem l16z (C : Det.Calls) (M : Mem) (v w : AV) : fgt a16_0 (rnd0 (some (e16_0 v w (.int .i64 (0 : Nat)) (.int .i64 (0 : Nat)), mk [] :: M)) k16_0 C s16_b0 1) = some (.exit 0, x16_0 .dead, mk [] :: M) := by
  rw [rnd0_some]
  conv => lhs; arg 2; arg 1; rw [s16_b0]
  simp

theorem same_ev (k : Nat) (M : Mem) (v w : AV) (l m : List (BitVec 32)) (hv : WS M u32 v l) (hw : WS M u32 w m) (hl : l.length < 2 ^ 45) :
    callFn SP (k + 1) 16 [v, w] M = some (.bool (decide (l = m)), [], M) := by
  rw [call_fn (by rfl) (by simp)]
  have e1 := hv.len
  have e2 := hw.len
  by_cases h : l.length = m.length
  · have e3 : (l.length : Int) = m.length := by omega
    by_cases h0 : l.length = 0
    · obtain rfl := List.eq_nil_of_length_eq_zero h0
      obtain rfl := List.eq_nil_of_length_eq_zero (h ▸ h0 : m.length = 0)
      have hl := l16z (callFn SP k) M v w
      rcases hv with ⟨_, rfl, _⟩ | ⟨_, rfl, _⟩ | ⟨d, id, z, rw1, fl, r, rfl, h3, h4⟩ <;> rcases hw with ⟨_, rfl, _⟩ | ⟨_, rfl, _⟩ | ⟨d', id', z', rw2, fl', r', rfl, h5, h6⟩ <;>
        · try have hn1 : d ≠ M.length := by omega
          try have hn2 : d' ≠ M.length := by omega
          simp (disch := omega) [e1, e2, e3, *]
          rw [ev_loop 1 (by simp [*]) hl (by omega)]
          simp (disch := omega)
    · rcases hv with ⟨_, rfl, rfl⟩ | ⟨_, rfl, rfl⟩ | ⟨d, id, z, rw1, fl, r, rfl, h3, h4⟩
      · simp at h0
      · simp at h0
      rcases hw with ⟨_, rfl, rfl⟩ | ⟨_, rfl, rfl⟩ | ⟨d', id', z', rw2, fl', r', rfl, h5, h6⟩
      · simp at h; simp [h] at h0
      · simp at h; simp [h] at h0
      have hn1 : d ≠ M.length := by omega
      have hn2 : d' ≠ M.length := by omega
      have hl := l16 (callFn SP k) M d id z d' id' z' rw1 fl rw2 fl' r r' l m m.length h rfl (by omega) h3 h5 h4 h6 m.length 0 (m.length + 1) (Nat.zero_add _) (Nat.lt_succ_self _) (fun k hk => by omega)
      rw [h]
      simp (disch := omega) [hn1, hn2]
      by_cases he : l = m
      · rw [if_pos he] at hl
        rw [ev_loop (m.length + 1) (by simp [hn1, hn2]) hl (by omega)]
        simp [he]
      · rw [if_neg he] at hl
        rw [ev_loop (m.length + 1) (by simp [hn1, hn2]) hl (by omega)]
        simp [he]
  · have e3 : (l.length : Int) ≠ m.length := by omega
    have hne : l ≠ m := fun h0 => h (by rw [h0])
    simp (disch := omega) [e1, e2, e3, hne]

end Go.Proofs.Ytjaloajnlpepcaa
