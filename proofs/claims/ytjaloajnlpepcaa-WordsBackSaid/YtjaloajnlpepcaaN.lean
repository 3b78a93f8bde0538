/-
  The document's text of words, as a whole.
-/
import Derived.Test.YtjaloajnlpepcaaO
namespace Go.Proofs.Ytjaloajnlpepcaa
open Go.Det
set_option maxRecDepth 100000
set_option maxHeartbeats 4000000
set_option linter.unusedSimpArgs false
set_option linter.unusedVariables false

def oo (l : List AV) (b : List UInt8) (kk : Nat) : List AV := l ++ (b.take kk).map byteAV
theorem oo_zero (l : List AV) (b : List UInt8) : oo l b 0 = l := by simp [oo]
theorem oo_four (l : List AV) (b : List UInt8) (h : b.length = 4) : oo l b 4 = l ++ b.map byteAV := by rw [oo, List.take_of_length_le (by omega)]
theorem oo_succ (l : List AV) (b : List UInt8) (kk : Nat) (h : kk < b.length) : oo l b (kk + 1) = oo l b kk ++ [byteAV (nth b kk)] := by
  rw [oo, List.take_add_one, getElem?_nth b kk h, List.map_append, ← List.append_assoc]; rfl
theorem oo_ne (l : List AV) (b : List UInt8) (kk : Nat) (hb : b.length = 4) (h : l ≠ [] ∨ 0 < kk) : oo l b kk ≠ [] := by
  intro h0
  have := congrArg List.length h0
  simp [oo] at this
  rcases h with h | h
  · exact h (by simpa using this.1)
  · have h2 := this.2
    rcases h2 with h2 | h2
    · omega
    · rw [h2] at hb; simp at hb

theorem l22_2 (C : Det.Calls) (M : Mem) (v : AV) (big : Bool) (b : List UInt8) (hb : b.length = 4) (i : Int) (d id z N : Nat) (hd : d < M.length) (first : Bool) (l : List AV) (hf : first = true ↔ l = []) (hs : l.length < 2 ^ 42) (j : Nat) :
    ∀ (kk n : Nat), kk + j = 4 → j < n →
    fgt a22_2 (rnd0 (some (e22_2 (.slice (some ⟨d, id, z, 0⟩) N 1) (.bool big) (gv M.length 72020 (oo l b kk)) (.int .i64 i) (.ptr (some ⟨M.length, 20000, 4, 0⟩)) (.int .i64 kk), mk (bm first b (oo l b kk)) :: M)) k22_2 C s22_b2 n) =
      some (.exit 4, x22_2 (.slice (some ⟨d, id, z, 0⟩) N 1) (.bool big) (gv M.length 72020 (l ++ b.map byteAV)) (.int .i64 i), mk (gm 72020 true (l ++ b.map byteAV)) :: M) := by
  have hn1 : d ≠ M.length := by omega
  induction j with
  | zero =>
    intro kk n h hn
    obtain rfl : kk = 4 := by omega
    have hne := oo_ne l b 4 hb (.inr (by omega))
    rw [rnd0_some]
    conv => lhs; arg 2; arg 1; rw [s22_b2]
    rw [oo_four l b hb] at hne ⊢
    cases first <;> simp [bm, gv_ne _ _ _ hne, gm_ne _ _ _ hne, hn1]
  | succ j ih0 =>
    intro kk n h hn
    obtain ⟨n, rfl⟩ : ∃ m, n = m + 1 := ⟨n - 1, by omega⟩
    have hk : kk < 4 := by omega
    have ih := ih0 (kk + 1) n (by omega) (by omega)
    rw [oo_succ l b kk (by omega), gv_snoc, bm, gm_snoc] at ih
    have hl : (oo l b kk).length < 2 ^ 43 := by
      simp [oo]; omega
    rw [rnd0_some]
    conv => lhs; arg 2; arg 1; rw [s22_b2]
    cases first
    · have hne := oo_ne l b kk hb (.inl (fun h => by simpa using hf.2 h))
      simpa (disch := omega) [getElem_nth b, bm, gv_ne _ _ _ hne, gm_ne _ _ _ hne, hn1, hk, hb, if_pos, if_neg, IntWalk.i64_in] using ih
    · obtain rfl := hf.1 rfl
      by_cases h0 : kk = 0
      · subst h0
        rw [oo_zero] at ih ⊢
        simpa (disch := omega) [getElem_nth b, bm, gv_nil, gm_nil, hn1, hk, hb, if_pos, if_neg, IntWalk.i64_in] using ih
      · have hne := oo_ne [] b kk hb (.inr (by omega))
        simpa (disch := omega) [getElem_nth b, bm, gv_ne _ _ _ hne, gm_ne _ _ _ hne, hn1, hk, hb, if_pos, if_neg, IntWalk.i64_in] using ih

/-- The document's text as far as i. -/
def tt (big : Bool) (l : List (BitVec 32)) (i : Nat) : List AV := (tx big (l.take i)).map byteAV
theorem tt_zero (big : Bool) (l : List (BitVec 32)) : tt big l 0 = [] := rfl
theorem tt_succ (big : Bool) (l : List (BitVec 32)) (i : Nat) (h : i < l.length) : tt big l (i + 1) = tt big l i ++ (by4 big (nth l i)).map byteAV := by
  rw [tt, tx_take big l i h, List.map_append]; rfl
theorem tt_len (big : Bool) (l : List (BitVec 32)) (i : Nat) (h : i ≤ l.length) : (tt big l i).length = 4 * i := by
  rw [tt, List.length_map, tx_len, List.length_take, Nat.min_eq_left h]
theorem tt_ne (big : Bool) (l : List (BitVec 32)) (i : Nat) (h : i ≤ l.length) (h0 : 0 < i) : tt big l i ≠ [] := by
  intro h1
  have := tt_len big l i h
  rw [h1] at this
  simp at this
  omega

theorem l22_0 (k : Nat) (M : Mem) (big : Bool) (d id z : Nat) (rw_ fl : Bool) (r : List AV) (l : List (BitVec 32)) (N : Nat) (h1 : l.length = N) (hN : N < 2 ^ 40)
    (hd : d < M.length) (hg : ∀ o, get M ⟨d, id, z, o⟩ = some (.cells (l.map u32 ++ r) rw_ fl)) (j : Nat) :
    ∀ (i n : Nat), i + j = N → j < n →
    fgt a22_0 (rnd0 (some (e22_0 (.slice (some ⟨d, id, z, 0⟩) N 1) (.bool big) (gv M.length 72020 (tt big l i)) (.int .i64 i), mk (gm 72020 true (tt big l i)) :: M)) k22_0 (callFn SP k) s22_b0 n) =
      some (.exit 0, x22_0 (gv M.length 72020 (tt big l N)), mk (gm 72020 true (tt big l N)) :: M) := by
  have hn1 : d ≠ M.length := by omega
  induction j with
  | zero =>
    intro i n h hn
    obtain rfl : i = N := by omega
    rw [rnd0_some]
    conv => lhs; arg 2; arg 1; rw [s22_b0]
    by_cases h0 : i = 0
    · subst h0; simp [tt_zero, gv_nil, gm_nil]
    · have hne := tt_ne big l i (by omega) (by omega)
      simp [gv_ne _ _ _ hne, gm_ne _ _ _ hne]
  | succ j ih0 =>
    intro i n h hn
    obtain ⟨n, rfl⟩ : ∃ m, n = m + 1 := ⟨n - 1, by omega⟩
    have hi : i < N := by omega
    have ih := ih0 (i + 1) n (by omega) (by omega)
    have ga := map_app_get u32 l r i (by omega)
    have hne2 := tt_ne big l (i + 1) (by omega) (by omega)
    have hlen := tt_len big l i (by omega)
    have hz : [byteAV 0, byteAV 0, byteAV 0, byteAV 0] = (bb big (nth l i) 0).map byteAV := by cases big <;> rfl
    have hl1 := fun first hf => l22_1 (callFn SP k) M (.bool big) big (nth l i) i d id z N hd first (tt big l i) hf 4 0 5 rfl (by omega)
    have hl2 := fun first hf => l22_2 (callFn SP k) M (.bool big) big (by4 big (nth l i)) (by4_len _ _) i d id z N hd first (tt big l i) hf (by omega) 4 0 5 rfl (by omega)
    simp only [oo_zero, ← tt_succ big l i (show i < l.length by omega)] at hl2
    rw [gv_ne _ _ _ hne2, gm_ne _ _ _ hne2] at ih hl2
    rw [rnd0_some]
    conv => lhs; arg 2; arg 1; rw [s22_b0]
    by_cases h0 : i = 0
    · have he : tt big l i = [] := by rw [h0]; rfl
      have hl1 := hl1 true (by simp [he])
      have hl2 := hl2 true (by simp [he])
      rw [he] at hl1 hl2
      rw [he]
      simp only [bm, if_true, gv_nil, gm_nil] at hl1 hl2
      rw [← hz] at hl1
      simp (disch := omega) [gv_nil, gm_nil, hi, get_low, hd, hg, ga, if_pos, hn1]
      rw [ev_loop 5 (by simp [hn1]; rfl) hl1 (by omega)]
      simp (disch := omega) [gv_nil, gm_nil, if_pos, hn1]
      rw [ev_loop 5 (by simp [hn1]) hl2 (by omega)]
      simpa (disch := omega) [if_pos, hn1, IntWalk.i64_in] using ih
    · have hne := tt_ne big l i (by omega) (by omega)
      have hl1 := hl1 false (by simp [hne])
      have hl2 := hl2 false (by simp [hne])
      simp only [bm, if_false, Bool.false_eq_true, gv_ne _ _ _ hne, gm_ne _ _ _ hne, List.cons_append, List.nil_append] at hl1 hl2
      rw [← hz] at hl1
      simp (disch := omega) [gv_ne _ _ _ hne, gm_ne _ _ _ hne, hi, get_low, hd, hg, ga, if_pos, hn1]
      rw [ev_loop 5 (by simp [hn1]; rfl) hl1 (by omega)]
      simp (disch := omega) [if_pos, hn1]
      rw [ev_loop 5 (by simp [hn1]) hl2 (by omega)]
      simpa (disch := omega) [if_pos, hn1, IntWalk.i64_in] using ih

theorem reftext_ev (k : Nat) (M : Mem) (v : AV) (big : Bool) (l : List (BitVec 32)) (hv : WS M u32 v l) (hN : l.length < 2 ^ 40) : callFn SP (k + 1) 22 [v, .bool big] M = some (.str (tx big l), [], M) := by
  rw [call_fn (by rfl) (by simp)]
  have hz : ∀ v, alen true v = some (.int .i64 0) → fgt a22_0 (rnd0 (some (e22_0 v (.bool big) (.slice none 0 0) (.int .i64 (0 : Nat)), mk [] :: M)) k22_0 (callFn SP k) s22_b0 1) = some (.exit 0, x22_0 (.slice none 0 0), mk [] :: M) := by
    intro v h
    rw [rnd0_some]
    conv => lhs; arg 2; arg 1; rw [s22_b0]
    simp [h]
  rcases hv with ⟨w, rfl, rfl⟩ | ⟨w, rfl, rfl⟩ | ⟨d, id, z, rw1, fl, r, rfl, h3, h4⟩
  · have hz := hz (.slice none 0 w) rfl
    simp (disch := omega) [if_pos]
    rw [ev_loop 1 (by simp) hz (by omega)]
    simp [tx]
  · have hz := hz (.slice0 w) rfl
    simp (disch := omega) [if_pos]
    rw [ev_loop 1 (by simp) hz (by omega)]
    simp [tx]
  · have hl := l22_0 k M big d id z rw1 fl r l l.length rfl hN h3 h4 l.length 0 (l.length + 1) (Nat.zero_add _) (Nat.lt_succ_self _)
    have hn1 : d ≠ M.length := by omega
    have ht : tt big l l.length = (tx big l).map byteAV := by rw [tt, List.take_length]
    have hn := tx_len big l
    rw [tt_zero, ht] at hl
    by_cases h0 : l.length = 0
    · obtain rfl := List.eq_nil_of_length_eq_zero h0
      simp only [tx, List.map_nil, gv_nil, gm_nil] at hl
      simp (disch := omega) [if_pos, hn1]
      rw [ev_loop 1 (by simp [hn1]) hl (by omega)]
      simp [tx]
    · have hne := tt_ne big l l.length (Nat.le_refl _) (by omega)
      rw [ht] at hne
      simp only [gv_nil, gm_nil, gv_ne _ _ _ hne, gm_ne _ _ _ hne] at hl
      simp (disch := omega) [if_pos, hn1]
      rw [ev_loop (l.length + 1) (by simp [hn1]) hl (by omega)]
      simp (disch := omega) [if_pos]

end Go.Proofs.Ytjaloajnlpepcaa
