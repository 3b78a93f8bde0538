/-
  LIB, words: the text of words.
-/
import Derived.Test.YtaennaoaoahjmaaDoorLibWR
set_option maxRecDepth 100000
set_option maxHeartbeats 4000000
set_option linter.unusedSimpArgs false
set_option linter.unusedVariables false
namespace Go.Det.W
open Go.Det
def by4 (big : Bool) (x : BitVec 32) : List UInt8 :=
  if big then [low8 (x >>> 24), low8 (x >>> 16), low8 (x >>> 8), low8 x] else [low8 x, low8 (x >>> 8), low8 (x >>> 16), low8 (x >>> 24)]
theorem by4_len (big : Bool) (x : BitVec 32) : (by4 big x).length = 4 := by cases big <;> rfl
def tx (big : Bool) : List (BitVec 32) → List UInt8
  | [] => []
  | x :: l => by4 big x ++ tx big l
theorem tx_len (big : Bool) : ∀ l, (tx big l).length = 4 * l.length
  | [] => rfl
  | x :: l => by rw [tx, List.length_append, by4_len, tx_len big l, List.length_cons]; omega
theorem tx_app (big : Bool) : ∀ l m, tx big (l ++ m) = tx big l ++ tx big m
  | [], m => rfl
  | x :: l, m => by rw [List.cons_append, tx, tx_app big l m, tx, List.append_assoc]
theorem take_succ_nth (l : List (BitVec 32)) (i : Nat) (h : i < l.length) : l.take (i + 1) = l.take i ++ [nth l i] := by
  rw [List.take_add_one, getElem?_nth l i h]; rfl
theorem tx_take (big : Bool) (l : List (BitVec 32)) (i : Nat) (h : i < l.length) : tx big (l.take (i + 1)) = tx big (l.take i) ++ by4 big (nth l i) := by
  rw [take_succ_nth l i h, tx_app, tx, tx, List.append_nil]

theorem l21 (C : Det.Calls) (M : Mem) (d id z : Nat) (rw_ fl : Bool) (r : List AV) (l : List (BitVec 32)) (N : Nat) (h1 : l.length = N) (hN : N < 2 ^ 40)
    (hd : d < M.length) (hg : ∀ o, get M ⟨d, id, z, o⟩ = some (.cells (l.map u32 ++ r) rw_ fl)) (j : Nat) :
    ∀ (i n : Nat), i + j = N → j < n →
    fgt a21_0 (rnd0 (some (e21_0 (.slice (some ⟨M.length, 4012, 4 * i, 0⟩) (4 * i) 1) (.slice (some ⟨d, id, z, 0⟩) N 1) (.int .i64 N) (.int .i64 i), mk [(4012, .cells ((tx false (l.take i)).map byteAV) true true)] :: M)) k21_0 C s21_b0 n) =
      some (.exit 0, x21_0 (.slice (some ⟨M.length, 4012, 4 * N, 0⟩) (4 * N) 1), mk [(4012, .cells ((tx false l).map byteAV) true true)] :: M) := by
  have hn1 : d ≠ M.length := by omega
  induction j with
  | zero =>
    intro i n h hn
    obtain rfl : i = N := by omega
    rw [rnd0_some]
    conv => lhs; arg 2; arg 1; rw [s21_b0]
    rw [List.take_of_length_le (by omega)]
    simp
  | succ j ih0 =>
    intro i n h hn
    obtain ⟨n, rfl⟩ : ∃ m, n = m + 1 := ⟨n - 1, by omega⟩
    have hi : i < N := by omega
    have ih := ih0 (i + 1) n (by omega) (by omega)
    have ga := map_app_get u32 l r i (by omega)
    have hl : (tx false (l.take i)).length = 4 * i := by rw [tx_len, List.length_take]; omega
    rw [tx_take false l i (by omega), by4, if_neg (by simp), Nat.mul_add] at ih
    rw [rnd0_some]
    conv => lhs; arg 2; arg 1; rw [s21_b0]
    simpa (disch := omega) [hi, get_low, hd, hg, ga, hl, if_pos, hn1, IntWalk.i64_in] using ih

theorem l23 (C : Det.Calls) (M : Mem) (d id z : Nat) (rw_ fl : Bool) (r : List AV) (l : List (BitVec 32)) (N : Nat) (h1 : l.length = N) (hN : N < 2 ^ 40)
    (hd : d < M.length) (hg : ∀ o, get M ⟨d, id, z, o⟩ = some (.cells (l.map u32 ++ r) rw_ fl)) (j : Nat) :
    ∀ (i n : Nat), i + j = N → j < n →
    fgt a23_0 (rnd0 (some (e23_0 (.slice (some ⟨M.length, 4012, 4 * i, 0⟩) (4 * i) 1) (.slice (some ⟨d, id, z, 0⟩) N 1) (.int .i64 N) (.int .i64 i), mk [(4012, .cells ((tx true (l.take i)).map byteAV) true true)] :: M)) k23_0 C s23_b0 n) =
      some (.exit 0, x23_0 (.slice (some ⟨M.length, 4012, 4 * N, 0⟩) (4 * N) 1), mk [(4012, .cells ((tx true l).map byteAV) true true)] :: M) := by
  have hn1 : d ≠ M.length := by omega
  induction j with
  | zero =>
    intro i n h hn
    obtain rfl : i = N := by omega
    rw [rnd0_some]
    conv => lhs; arg 2; arg 1; rw [s23_b0]
    rw [List.take_of_length_le (by omega)]
    simp
  | succ j ih0 =>
    intro i n h hn
    obtain ⟨n, rfl⟩ : ∃ m, n = m + 1 := ⟨n - 1, by omega⟩
    have hi : i < N := by omega
    have ih := ih0 (i + 1) n (by omega) (by omega)
    have ga := map_app_get u32 l r i (by omega)
    have hl : (tx true (l.take i)).length = 4 * i := by rw [tx_len, List.length_take]; omega
    rw [tx_take true l i (by omega), by4, if_pos rfl, Nat.mul_add] at ih
    rw [rnd0_some]
    conv => lhs; arg 2; arg 1; rw [s23_b0]
    simpa (disch := omega) [hi, get_low, hd, hg, ga, hl, if_pos, hn1, IntWalk.i64_in] using ih



theorem fromlittle_ev {SP : SProg} {n21 : Nat} (h21 : SP.fn n21 = some s21) (k : Nat) (M : Mem) (v : AV) (l : List (BitVec 32)) (hv : WS M u32 v l) (hN : l.length < 2 ^ 40) : callFn SP (k + 1) n21 [v] M = some (.str (tx false l), [], M) := by
  rw [call_fn (h21.trans rfl) (by simp)]
  have hz : ∀ v, fgt a21_0 (rnd0 (some (e21_0 (.slice (some ⟨M.length, 4012, 0, 0⟩) 0 1) v (.int .i64 (0 : Nat)) (.int .i64 (0 : Nat)), mk [(4012, .cells [] true true)] :: M)) k21_0 (callFn SP k) s21_b0 1) =
      some (.exit 0, x21_0 (.slice (some ⟨M.length, 4012, 0, 0⟩) 0 1), mk [(4012, .cells [] true true)] :: M) := by
    intro v
    rw [rnd0_some]
    conv => lhs; arg 2; arg 1; rw [s21_b0]
    simp
  rcases hv with ⟨w, rfl, rfl⟩ | ⟨w, rfl, rfl⟩ | ⟨d, id, z, rw1, fl, r, rfl, h3, h4⟩
  · simp (disch := omega) [if_pos, IntWalk.i64_in]
    rw [ev_loop 1 (by simp) (hz (.slice none 0 w)) (by omega)]
    simp [tx]
  · simp (disch := omega) [if_pos, IntWalk.i64_in]
    rw [ev_loop 1 (by simp) (hz (.slice0 w)) (by omega)]
    simp [tx]
  · have hl := l21 (callFn SP k) M d id z rw1 fl r l l.length rfl hN h3 h4 l.length 0 (l.length + 1) (Nat.zero_add _) (Nat.lt_succ_self _)
    rw [List.take_zero, tx, List.map_nil] at hl
    have hn1 : d ≠ M.length := by omega
    have hn := tx_len false l
    simp (disch := omega) [if_pos, hn1, IntWalk.i64_in]
    rw [ev_loop (l.length + 1) (by simp [hn1]) hl (by omega)]
    simp (disch := omega) [hn, if_pos]

theorem frombig_ev {SP : SProg} {n23 : Nat} (h23 : SP.fn n23 = some s23) (k : Nat) (M : Mem) (v : AV) (l : List (BitVec 32)) (hv : WS M u32 v l) (hN : l.length < 2 ^ 40) : callFn SP (k + 1) n23 [v] M = some (.str (tx true l), [], M) := by
  rw [call_fn (h23.trans rfl) (by simp)]
  have hz : ∀ v, fgt a23_0 (rnd0 (some (e23_0 (.slice (some ⟨M.length, 4012, 0, 0⟩) 0 1) v (.int .i64 (0 : Nat)) (.int .i64 (0 : Nat)), mk [(4012, .cells [] true true)] :: M)) k23_0 (callFn SP k) s23_b0 1) =
      some (.exit 0, x23_0 (.slice (some ⟨M.length, 4012, 0, 0⟩) 0 1), mk [(4012, .cells [] true true)] :: M) := by
    intro v
    rw [rnd0_some]
    conv => lhs; arg 2; arg 1; rw [s23_b0]
    simp
  rcases hv with ⟨w, rfl, rfl⟩ | ⟨w, rfl, rfl⟩ | ⟨d, id, z, rw1, fl, r, rfl, h3, h4⟩
  · simp (disch := omega) [if_pos, IntWalk.i64_in]
    rw [ev_loop 1 (by simp) (hz (.slice none 0 w)) (by omega)]
    simp [tx]
  · simp (disch := omega) [if_pos, IntWalk.i64_in]
    rw [ev_loop 1 (by simp) (hz (.slice0 w)) (by omega)]
    simp [tx]
  · have hl := l23 (callFn SP k) M d id z rw1 fl r l l.length rfl hN h3 h4 l.length 0 (l.length + 1) (Nat.zero_add _) (Nat.lt_succ_self _)
    rw [List.take_zero, tx, List.map_nil] at hl
    have hn1 : d ≠ M.length := by omega
    have hn := tx_len true l
    simp (disch := omega) [if_pos, hn1, IntWalk.i64_in]
    rw [ev_loop (l.length + 1) (by simp [hn1]) hl (by omega)]
    simp (disch := omega) [hn, if_pos]



def nn (x : BitVec 32) : Nat → BitVec 32
  | 0 => x
  | k + 1 => nn x k / 256#32
def dg (x : BitVec 32) (k : Nat) : UInt8 := low8 (nn x k % 256#32)
def bb (big : Bool) (x : BitVec 32) (kk : Nat) : List UInt8 := (List.range 4).map fun p => if (if big then 3 - p else p) < kk then dg x (if big then 3 - p else p) else 0

theorem bb_len (big : Bool) (x : BitVec 32) (kk : Nat) : (bb big x kk).length = 4 := by simp [bb]
theorem bb_set (big : Bool) (x : BitVec 32) (kk : Nat) (h : kk < 4) : (bb big x kk).set (if big then 3 - kk else kk) (dg x kk) = bb big x (kk + 1) := by
  match kk, h with
  | 0, _ => cases big <;> rfl
  | 1, _ => cases big <;> rfl
  | 2, _ => cases big <;> rfl
  | 3, _ => cases big <;> rfl
theorem nn_nat (x : BitVec 32) : ∀ k, (nn x k).toNat = x.toNat / 256 ^ k
  | 0 => by simp [nn]
  | k + 1 => by
    rw [nn, BitVec.toNat_udiv, nn_nat x k, Nat.div_div_eq_div_mul, Nat.pow_succ]; rfl
theorem dg_eq (x : BitVec 32) (k : Nat) : dg x k = low8 (x >>> (8 * k)) := by
  apply b8_eq
  rw [dg, low8_toNat, low8_toNat, BitVec.toNat_umod, nn_nat, BitVec.toNat_ushiftRight, Nat.shiftRight_eq_div_pow, Nat.pow_mul]
  show x.toNat / 256 ^ k % 256 % 256 = x.toNat / 256 ^ k % 256
  rw [Nat.mod_mod]
theorem bb_all (big : Bool) (x : BitVec 32) : bb big x 4 = by4 big x := by
  cases big
  · show [dg x 0, dg x 1, dg x 2, dg x 3] = _
    simp only [dg_eq]
    rfl
  · show [dg x 3, dg x 2, dg x 1, dg x 0] = _
    simp only [dg_eq]
    rfl

/-- What stands in memory while a word is laid. -/
def bm (first : Bool) (b : List UInt8) (out : List AV) : List (Nat × Con) :=
  if first then (20000, .cells (b.map byteAV) true true) :: gm 72020 true out else gm 72020 true out ++ [(20000, .cells (b.map byteAV) true true)]

theorem l22_1 (C : Det.Calls) (M : Mem) (v : AV) (big : Bool) (x : BitVec 32) (i : Int) (d id z N : Nat) (hd : d < M.length) (first : Bool) (out : List AV) (hf : first = true ↔ out = []) (j : Nat) :
    ∀ (kk n : Nat), kk + j = 4 → j < n →
    fgt a22_1 (rnd0 (some (e22_1 (.slice (some ⟨d, id, z, 0⟩) N 1) (.bool big) (gv M.length 72020 out) (.int .i64 i) (.ptr (some ⟨M.length, 20000, 4, 0⟩)) (u32 (nn x kk)) (.int .i64 kk), mk (bm first (bb big x kk) out) :: M)) k22_1 C s22_b1 n) =
      some (.exit 2, x22_1 (.slice (some ⟨d, id, z, 0⟩) N 1) (.bool big) (gv M.length 72020 out) (.int .i64 i) (.ptr (some ⟨M.length, 20000, 4, 0⟩)), mk (bm first (by4 big x) out) :: M) := by
  have hn1 : d ≠ M.length := by omega
  induction j with
  | zero =>
    intro kk n h hn
    obtain rfl : kk = 4 := by omega
    rw [rnd0_some]
    conv => lhs; arg 2; arg 1; rw [s22_b1]
    rw [bb_all]
    cases first
    · have hne : out ≠ [] := fun h => by simpa using hf.2 h
      simp [bm, gv_ne _ _ _ hne, gm_ne _ _ _ hne, hn1]
    · obtain rfl := hf.1 rfl
      simp [bm, gv_nil, gm_nil, hn1]
  | succ j ih0 =>
    intro kk n h hn
    obtain ⟨n, rfl⟩ : ∃ m, n = m + 1 := ⟨n - 1, by omega⟩
    have hk : kk < 4 := by omega
    have ih := ih0 (kk + 1) n (by omega) (by omega)
    have hb := bb_set big x kk hk
    have hl := bb_len big x kk
    rw [show nn x (kk + 1) = nn x kk / 256#32 from rfl] at ih
    have hg : low8 (nn x kk % 256#32) = dg x kk := rfl
    rw [rnd0_some]
    conv => lhs; arg 2; arg 1; rw [s22_b1]
    cases big
    · simp at hb
      cases first
      · have hne : out ≠ [] := fun h => by simpa using hf.2 h
        simpa (disch := omega) [-List.map_set, bm, gv_ne _ _ _ hne, gm_ne _ _ _ hne, hn1, hk, hl, hb, hg, if_pos, IntWalk.i64_in] using ih
      · obtain rfl := hf.1 rfl
        simpa (disch := omega) [-List.map_set, bm, gv_nil, gm_nil, hn1, hk, hl, hb, hg, if_pos, IntWalk.i64_in] using ih
    · simp at hb
      have t0 : (3 - (kk : Int)).toNat = 3 - kk := by omega
      cases first
      · have hne : out ≠ [] := fun h => by simpa using hf.2 h
        simpa (disch := omega) [-List.map_set, bm, gv_ne _ _ _ hne, gm_ne _ _ _ hne, hn1, hk, hl, hb, hg, t0, if_pos, IntWalk.i64_in] using ih
      · obtain rfl := hf.1 rfl
        simpa (disch := omega) [-List.map_set, bm, gv_nil, gm_nil, hn1, hk, hl, hb, hg, t0, if_pos, IntWalk.i64_in] using ih



def oo (l : List AV) (b : List UInt8) (kk : Nat) : List AV := l ++ (b.take kk).map byteAV
theorem oo_zero (l : List AV) (b : List UInt8) : oo l b 0 = l := by simp [oo]
theorem oo_four (l : List AV) (b : List UInt8) (h : b.length = 4) : oo l b 4 = l ++ b.map byteAV := by rw [oo, List.take_of_length_le (by omega)]
theorem oo_succ (l : List AV) (b : List UInt8) (kk : Nat) (h : kk < b.length) : oo l b (kk + 1) = oo l b kk ++ [byteAV (nth b kk)] := by
  rw [oo, List.take_add_one, getElem?_nth b kk h, List.map_append, ← List.append_assoc]; rfl
theorem oo_ne (l : List AV) (b : List UInt8) (kk : Nat) (hb : b.length = 4) (h : l ≠ [] ∨ 0 < kk) : oo l b kk ≠ [] := by
  intro h0
  have := congrArg List.length h0
  simp [oo] at this
  rcases h with h | h
  · exact h (by simpa using this.1)
  · have h2 := this.2
    rcases h2 with h2 | h2
    · omega
    · rw [h2] at hb; simp at hb

theorem l22_2 (C : Det.Calls) (M : Mem) (v : AV) (big : Bool) (b : List UInt8) (hb : b.length = 4) (i : Int) (d id z N : Nat) (hd : d < M.length) (first : Bool) (l : List AV) (hf : first = true ↔ l = []) (hs : l.length < 2 ^ 42) (j : Nat) :
    ∀ (kk n : Nat), kk + j = 4 → j < n →
    fgt a22_2 (rnd0 (some (e22_2 (.slice (some ⟨d, id, z, 0⟩) N 1) (.bool big) (gv M.length 72020 (oo l b kk)) (.int .i64 i) (.ptr (some ⟨M.length, 20000, 4, 0⟩)) (.int .i64 kk), mk (bm first b (oo l b kk)) :: M)) k22_2 C s22_b2 n) =
      some (.exit 4, x22_2 (.slice (some ⟨d, id, z, 0⟩) N 1) (.bool big) (gv M.length 72020 (l ++ b.map byteAV)) (.int .i64 i), mk (gm 72020 true (l ++ b.map byteAV)) :: M) := by
  have hn1 : d ≠ M.length := by omega
  induction j with
  | zero =>
    intro kk n h hn
    obtain rfl : kk = 4 := by omega
    have hne := oo_ne l b 4 hb (.inr (by omega))
    rw [rnd0_some]
    conv => lhs; arg 2; arg 1; rw [s22_b2]
    rw [oo_four l b hb] at hne ⊢
    cases first <;> simp [bm, gv_ne _ _ _ hne, gm_ne _ _ _ hne, hn1]
  | succ j ih0 =>
    intro kk n h hn
    obtain ⟨n, rfl⟩ : ∃ m, n = m + 1 := ⟨n - 1, by omega⟩
    have hk : kk < 4 := by omega
    have ih := ih0 (kk + 1) n (by omega) (by omega)
    rw [oo_succ l b kk (by omega), gv_snoc, bm, gm_snoc] at ih
    have hl : (oo l b kk).length < 2 ^ 43 := by
      simp [oo]; omega
    rw [rnd0_some]
    conv => lhs; arg 2; arg 1; rw [s22_b2]
    cases first
    · have hne := oo_ne l b kk hb (.inl (fun h => by simpa using hf.2 h))
      simpa (disch := omega) [getElem_nth b, bm, gv_ne _ _ _ hne, gm_ne _ _ _ hne, hn1, hk, hb, if_pos, if_neg, IntWalk.i64_in] using ih
    · obtain rfl := hf.1 rfl
      by_cases h0 : kk = 0
      · subst h0
        rw [oo_zero] at ih ⊢
        simpa (disch := omega) [getElem_nth b, bm, gv_nil, gm_nil, hn1, hk, hb, if_pos, if_neg, IntWalk.i64_in] using ih
      · have hne := oo_ne [] b kk hb (.inr (by omega))
        simpa (disch := omega) [getElem_nth b, bm, gv_ne _ _ _ hne, gm_ne _ _ _ hne, hn1, hk, hb, if_pos, if_neg, IntWalk.i64_in] using ih

/-- The document's text as far as i. -/
def tt (big : Bool) (l : List (BitVec 32)) (i : Nat) : List AV := (tx big (l.take i)).map byteAV
theorem tt_zero (big : Bool) (l : List (BitVec 32)) : tt big l 0 = [] := rfl
theorem tt_succ (big : Bool) (l : List (BitVec 32)) (i : Nat) (h : i < l.length) : tt big l (i + 1) = tt big l i ++ (by4 big (nth l i)).map byteAV := by
  rw [tt, tx_take big l i h, List.map_append]; rfl
theorem tt_len (big : Bool) (l : List (BitVec 32)) (i : Nat) (h : i ≤ l.length) : (tt big l i).length = 4 * i := by
  rw [tt, List.length_map, tx_len, List.length_take, Nat.min_eq_left h]
theorem tt_ne (big : Bool) (l : List (BitVec 32)) (i : Nat) (h : i ≤ l.length) (h0 : 0 < i) : tt big l i ≠ [] := by
  intro h1
  have := tt_len big l i h
  rw [h1] at this
  simp at this
  omega

theorem l22_0 {SP : SProg} (k : Nat) (M : Mem) (big : Bool) (d id z : Nat) (rw_ fl : Bool) (r : List AV) (l : List (BitVec 32)) (N : Nat) (h1 : l.length = N) (hN : N < 2 ^ 40)
    (hd : d < M.length) (hg : ∀ o, get M ⟨d, id, z, o⟩ = some (.cells (l.map u32 ++ r) rw_ fl)) (j : Nat) :
    ∀ (i n : Nat), i + j = N → j < n →
    fgt a22_0 (rnd0 (some (e22_0 (.slice (some ⟨d, id, z, 0⟩) N 1) (.bool big) (gv M.length 72020 (tt big l i)) (.int .i64 i), mk (gm 72020 true (tt big l i)) :: M)) k22_0 (callFn SP k) s22_b0 n) =
      some (.exit 0, x22_0 (gv M.length 72020 (tt big l N)), mk (gm 72020 true (tt big l N)) :: M) := by
  have hn1 : d ≠ M.length := by omega
  induction j with
  | zero =>
    intro i n h hn
    obtain rfl : i = N := by omega
    rw [rnd0_some]
    conv => lhs; arg 2; arg 1; rw [s22_b0]
    by_cases h0 : i = 0
    · subst h0; simp [tt_zero, gv_nil, gm_nil]
    · have hne := tt_ne big l i (by omega) (by omega)
      simp [gv_ne _ _ _ hne, gm_ne _ _ _ hne]
  | succ j ih0 =>
    intro i n h hn
    obtain ⟨n, rfl⟩ : ∃ m, n = m + 1 := ⟨n - 1, by omega⟩
    have hi : i < N := by omega
    have ih := ih0 (i + 1) n (by omega) (by omega)
    have ga := map_app_get u32 l r i (by omega)
    have hne2 := tt_ne big l (i + 1) (by omega) (by omega)
    have hlen := tt_len big l i (by omega)
    have hz : [byteAV 0, byteAV 0, byteAV 0, byteAV 0] = (bb big (nth l i) 0).map byteAV := by cases big <;> rfl
    have hl1 := fun first hf => l22_1 (callFn SP k) M (.bool big) big (nth l i) i d id z N hd first (tt big l i) hf 4 0 5 rfl (by omega)
    have hl2 := fun first hf => l22_2 (callFn SP k) M (.bool big) big (by4 big (nth l i)) (by4_len _ _) i d id z N hd first (tt big l i) hf (by omega) 4 0 5 rfl (by omega)
    simp only [oo_zero, ← tt_succ big l i (show i < l.length by omega)] at hl2
    rw [gv_ne _ _ _ hne2, gm_ne _ _ _ hne2] at ih hl2
    rw [rnd0_some]
    conv => lhs; arg 2; arg 1; rw [s22_b0]
    by_cases h0 : i = 0
    · have he : tt big l i = [] := by rw [h0]; rfl
      have hl1 := hl1 true (by simp [he])
      have hl2 := hl2 true (by simp [he])
      rw [he] at hl1 hl2
      rw [he]
      simp only [bm, if_true, gv_nil, gm_nil] at hl1 hl2
      rw [← hz] at hl1
      simp (disch := omega) [gv_nil, gm_nil, hi, get_low, hd, hg, ga, if_pos, hn1]
      rw [ev_loop 5 (by simp [hn1]; rfl) hl1 (by omega)]
      simp (disch := omega) [gv_nil, gm_nil, if_pos, hn1]
      rw [ev_loop 5 (by simp [hn1]) hl2 (by omega)]
      simpa (disch := omega) [if_pos, hn1, IntWalk.i64_in] using ih
    · have hne := tt_ne big l i (by omega) (by omega)
      have hl1 := hl1 false (by simp [hne])
      have hl2 := hl2 false (by simp [hne])
      simp only [bm, if_false, Bool.false_eq_true, gv_ne _ _ _ hne, gm_ne _ _ _ hne, List.cons_append, List.nil_append] at hl1 hl2
      rw [← hz] at hl1
      simp (disch := omega) [gv_ne _ _ _ hne, gm_ne _ _ _ hne, hi, get_low, hd, hg, ga, if_pos, hn1]
      rw [ev_loop 5 (by simp [hn1]; rfl) hl1 (by omega)]
      simp (disch := omega) [if_pos, hn1]
      rw [ev_loop 5 (by simp [hn1]) hl2 (by omega)]
      simpa (disch := omega) [if_pos, hn1, IntWalk.i64_in] using ih

theorem reftext_ev {SP : SProg} {n22 : Nat} (h22 : SP.fn n22 = some s22) (k : Nat) (M : Mem) (v : AV) (big : Bool) (l : List (BitVec 32)) (hv : WS M u32 v l) (hN : l.length < 2 ^ 40) : callFn SP (k + 1) n22 [v, .bool big] M = some (.str (tx big l), [], M) := by
  rw [call_fn (h22.trans rfl) (by simp)]
  have hz : ∀ v, alen true v = some (.int .i64 0) → fgt a22_0 (rnd0 (some (e22_0 v (.bool big) (.slice none 0 0) (.int .i64 (0 : Nat)), mk [] :: M)) k22_0 (callFn SP k) s22_b0 1) = some (.exit 0, x22_0 (.slice none 0 0), mk [] :: M) := by
    intro v h
    rw [rnd0_some]
    conv => lhs; arg 2; arg 1; rw [s22_b0]
    simp [h]
  rcases hv with ⟨w, rfl, rfl⟩ | ⟨w, rfl, rfl⟩ | ⟨d, id, z, rw1, fl, r, rfl, h3, h4⟩
  · have hz := hz (.slice none 0 w) rfl
    simp (disch := omega) [if_pos]
    rw [ev_loop 1 (by simp) hz (by omega)]
    simp [tx]
  · have hz := hz (.slice0 w) rfl
    simp (disch := omega) [if_pos]
    rw [ev_loop 1 (by simp) hz (by omega)]
    simp [tx]
  · have hl := l22_0 (SP := SP) k M big d id z rw1 fl r l l.length rfl hN h3 h4 l.length 0 (l.length + 1) (Nat.zero_add _) (Nat.lt_succ_self _)
    have hn1 : d ≠ M.length := by omega
    have ht : tt big l l.length = (tx big l).map byteAV := by rw [tt, List.take_length]
    have hn := tx_len big l
    rw [tt_zero, ht] at hl
    by_cases h0 : l.length = 0
    · obtain rfl := List.eq_nil_of_length_eq_zero h0
      simp only [tx, List.map_nil, gv_nil, gm_nil] at hl
      simp (disch := omega) [if_pos, hn1]
      rw [ev_loop 1 (by simp [hn1]) hl (by omega)]
      simp [tx]
    · have hne := tt_ne big l l.length (Nat.le_refl _) (by omega)
      rw [ht] at hne
      simp only [gv_nil, gm_nil, gv_ne _ _ _ hne, gm_ne _ _ _ hne] at hl
      simp (disch := omega) [if_pos, hn1]
      rw [ev_loop (l.length + 1) (by simp [hn1]) hl (by omega)]
      simp (disch := omega) [if_pos]

/-! ### words read back from their text -/
theorem low_w8 (x : BitVec 32) (k : Nat) : (low8 (x >>> k)).toNat = x.toNat / 2 ^ k % 256 := by
  rw [low8_toNat, BitVec.toNat_ushiftRight, Nat.shiftRight_eq_div_pow]

theorem back4 (x : BitVec 32) : wd (low8 x) (low8 (x >>> 8)) (low8 (x >>> 16)) (low8 (x >>> 24)) = x := by
  apply BitVec.eq_of_toNat_eq
  have hx := x.isLt
  rw [wd_nat, low_w8, low_w8, low_w8, low8_toNat]
  omega

theorem tx_nth (big : Bool) : ∀ (l : List (BitVec 32)) (i j : Nat), i < l.length → j < 4 → nth (tx big l) (4 * i + j) = nth (by4 big (nth l i)) j
  | [], i, j, h, hj => by simp at h
  | x :: l, 0, j, h, hj => by
    rw [tx, nth_append_left _ _ _ (by rw [by4_len]; omega)]
    simp [nth]
  | x :: l, i + 1, j, h, hj => by
    rw [tx, nth_append_right _ _ _ (by rw [by4_len]; omega), by4_len, show 4 * (i + 1) + j - 4 = 4 * i + j by omega, tx_nth big l i j (by simpa using h) hj]
    simp [nth]

theorem wat_tx (big : Bool) (l : List (BitVec 32)) (i : Nat) (h : i < l.length) : wat big (tx big l) i = nth l i := by
  have h0 := tx_nth big l i 0 h (by omega)
  have h1 := tx_nth big l i 1 h (by omega)
  have h2 := tx_nth big l i 2 h (by omega)
  have h3 := tx_nth big l i 3 h (by omega)
  rw [Nat.add_zero] at h0
  unfold wat
  rw [h0, h1, h2, h3]
  cases big
  · exact back4 _
  · exact back4 _

theorem tab_back (big : Bool) (l : List (BitVec 32)) : tab (wat big (tx big l)) l.length = l :=
  tab_eq _ _ _ rfl fun i hi => (wat_tx big l i hi).symm


end Go.Det.W
