/-
  The record's law: which sizes are good: the program's walk.
-/
import Derived.Test.YtaennaoaoahjmaaDoorA
set_option maxRecDepth 100000
set_option linter.unusedSimpArgs false
set_option linter.unusedVariables false
namespace Go.Proofs.YtaennaoaoahjmaaDoor
open Go.Det

/-! ### the index of a number in a list -/
def idx (x : Int) : List Int → Nat → Int
  | [], _ => -1
  | y :: l, i => if x = y then i else idx x l (i + 1)

theorem idx_ge (x : Int) : ∀ (l : List Int) (i : Nat), idx x l i = -1 ∨ (i : Int) ≤ idx x l i
  | [], i => .inl rfl
  | y :: l, i => by
    simp only [idx]
    split
    · right; omega
    · rcases idx_ge x l (i + 1) with h | h
      · exact .inl h
      · right; omega

theorem idx_mem (x : Int) : ∀ (l : List Int) (i : Nat), (idx x l i ≥ 0) ↔ x ∈ l
  | [], i => by simp [idx]
  | y :: l, i => by
    simp only [idx, List.mem_cons]
    split
    · rename_i h; simp [h]
    · rename_i h
      rw [idx_mem x l (i + 1)]
      simp [h]

def r41 (M : Mem) (o : Int) : Option (Ex × Env × Mem) := if o = -1 then some (.exit 0, x77_0 .dead, mk [] :: M) else some (.ret, x77_0 (.int .i64 o), mk [] :: M)

theorem l41 (C : Det.Calls) (M : Mem) (v : AV) (l : List Int) (x : Int) (N : Nat) (h1 : l.length = N) (hN : N < 2 ^ 40) (hv : WS M (AV.int .i64) v l) (j : Nat) : ∀ (i n : Nat), i + j = N → j < n →
    fgt a77_0 (rnd0 (some (e77_0 v (.int .i64 x) (.int .i64 N) (.int .i64 i), mk [] :: M)) k77_0 C s77_b0 n) = r41 M (idx x (l.drop i) i) := by
  induction j with
  | zero =>
    intro i n h hn
    obtain rfl : i = N := by omega
    rw [rnd0_some, List.drop_of_length_le (by omega)]
    conv => lhs; arg 2; arg 1; rw [s77_b0]
    simp [idx, r41]
  | succ j ih0 =>
    intro i n h hn
    obtain ⟨n, rfl⟩ : ∃ m, n = m + 1 := ⟨n - 1, by omega⟩
    have hi : i < N := by omega
    have ih := ih0 (i + 1) n (by omega) (by omega)
    obtain ⟨d, id, z, rw_, fl, r, hvv, hd, hg⟩ := hv.block (by omega)
    subst hvv
    have ga := map_app_get (AV.int .i64) l r i (by omega)
    have hn1 : d ≠ M.length := by omega
    rw [drop_nth l i (by omega), idx]
    rw [rnd0_some]
    conv => lhs; arg 2; arg 1; rw [s77_b0]
    by_cases hx : x = nth l i
    · have hne : ¬ ((i : Int) = -1) := by omega
      rw [if_pos hx]
      simp (disch := omega) [hi, get_low, hd, hg, ga, h1, if_pos, hn1, IntWalk.i64_in, ← hx, r41, hne]
    · rw [if_neg hx]
      simpa (disch := omega) [hi, get_low, hd, hg, ga, h1, if_pos, hn1, IntWalk.i64_in, hx] using ih

theorem index_ev (k : Nat) (M : Mem) (v : AV) (l : List Int) (x : Int) (hv : WS M (AV.int .i64) v l) (hN : l.length < 2 ^ 40) : callFn SP (k + 1) 77 [v, .int .i64 x] M = some (.int .i64 (idx x l 0), [], M) := by
  rw [call_fn (f := 77) (by rfl) (by simp)]
  have hl := l41 (callFn SP k) M v l x l.length rfl hN hv l.length 0 (l.length + 1) (by omega) (by omega)
  rw [List.drop_zero] at hl
  simp (disch := omega) [hv.len]
  unfold r41 at hl
  have hgc : gc k77_0 [v, AV.int IntKind.i64 x, AV.undef, AV.undef, AV.int IntKind.i64 0, AV.undef, v, AV.int IntKind.i64 l.length, AV.int IntKind.i64 0, AV.undef, AV.undef, AV.undef, AV.undef, AV.undef, AV.undef, AV.undef, AV.undef, AV.undef, AV.undef] (mk [] :: M) = some (e77_0 v (.int .i64 x) (.int .i64 l.length) (.int .i64 (0 : Nat)), mk [] :: M) := by
    rcases hv with ⟨w, rfl, rfl⟩ | ⟨w, rfl, rfl⟩ | ⟨d, id, z, rw1, fl, r, rfl, h3, h4⟩
    · simp
    · simp
    · have hn1 : d ≠ M.length := by omega
      simp [hn1]
  by_cases ho : idx x l 0 = -1
  · rw [if_pos ho] at hl
    rw [ev_loop (l.length + 1) hgc hl (by omega)]
    simp [ho]
  · rw [if_neg ho] at hl
    rw [ev_loop (l.length + 1) hgc hl (by omega)]
    simp

theorem contains_ev (k : Nat) (M : Mem) (v : AV) (l : List Int) (x : Int) (hv : WS M (AV.int .i64) v l) (hN : l.length < 2 ^ 40) : callFn SP (k + 2) 66 [v, .int .i64 x] M = some (.bool (decide (x ∈ l)), [], M) := by
  rw [call_fn (f := 66) (by rfl) (by simp)]
  have h1 := index_ev k (mk [] :: ro M) v l x (hv.ro.cons _) hN
  have h2 := idx_mem x l 0
  simp [h1]
  by_cases hx : x ∈ l
  · simp [hx] at h2 ⊢; omega
  · simp [hx] at h2 ⊢; omega

/-! ### sizes -/
def four (x : Int) : Bool := decide (x ∈ [(2 : Int), 4, 8, 16])

def sizesP (r : Rec) : Bool :=
  if r.data < 2 ∨ r.data > 8 ∨ (r.growing = true ∧ r.data = 8) then false else
  if four r.slots = false then false else
  if r.mark < 0 ∨ r.mark > r.slots ∨ (r.mark > 0 ∧ r.growing = false) then false else
  decide (r.built ≥ 0 ∧ r.built ≤ r.slots ∧ r.mems.length ≥ 1 ∧ r.mems.length ≤ 12)

set_option maxHeartbeats 4000000 in
theorem sizes_ev (k : Nat) (M : Mem) (r : Rec) (sv mv : AV) (h : IsRec M r sv mv) : callFn SP (k + 3) 54 [recV r sv mv] M = some (.bool (sizesP r), [], M) := by
  obtain ⟨count, epoch, data, slots, mark, built, growing, seats, mems⟩ := r
  obtain ⟨hs, hm, h1, h2⟩ := h
  simp only at hs hm h1 h2
  rw [call_fn (f := 54) (by rfl) (by simp)]
  have hc : ∀ (x : Int) (c : Con), callFn SP (k + 2) 66 [.slice (some ⟨M.length, 12000, 4, 0⟩) 4 1, .int .i64 x] (mk [(0, c), (12000, .cells [.int .i64 2, .int .i64 4, .int .i64 8, .int .i64 16] false true)] :: ro M) = some (.bool (four x), [], mk [(0, c), (12000, .cells [.int .i64 2, .int .i64 4, .int .i64 8, .int .i64 16] false true)] :: ro M) := by
    intro x c
    refine contains_ev k _ _ [2, 4, 8, 16] x (WS.top' (rw_ := false) (fl := true) (by simp) (by rw [ro_length]) rfl rfl) (by simp)
  simp only [recV, rcells, sizesP]
  have hml := hm.len
  cases hf : four slots
  · cases growing
    · by_cases c1 : data < 2
      · simp [hc, hf, c1]
      by_cases c2 : 8 < data
      · simp [hc, hf, c1, c2]
      simp [hc, hf, c1, c2]
    · by_cases c1 : data < 2
      · simp [hc, hf, c1]
      by_cases c2 : 8 < data
      · simp [hc, hf, c1, c2]
      by_cases c3 : data = 8
      · simp [hc, hf, c1, c2, c3]
      simp [hc, hf, c1, c2, c3]
  have g10 : (1 ≤ (mems.length : Int)) = (1 ≤ mems.length) := by simp only [eq_iff_iff]; omega
  have g11 : ((mems.length : Int) ≤ 12) = (mems.length ≤ 12) := by simp only [eq_iff_iff]; omega
  cases growing
  · by_cases c1 : data < 2
    · simp [hc, hf, hml, g10, g11, c1]
    by_cases c2 : 8 < data
    · simp [hc, hf, hml, g10, g11, c1, c2]
    by_cases c5 : mark < 0
    · simp [hc, hf, hml, g10, g11, c1, c2, c5]
    by_cases c6 : slots < mark
    · simp [hc, hf, hml, g10, g11, c1, c2, c5, c6]
    by_cases c7 : 0 < mark
    · simp [hc, hf, hml, g10, g11, c1, c2, c5, c6, c7]
    by_cases c8 : built < 0
    · simp [hc, hf, hml, g10, g11, c1, c2, c5, c6, c7, c8] <;> (try (intros; omega))
    simp only [Int.not_lt, Nat.not_lt] at c8
    by_cases c9 : slots < built
    · simp [hc, hf, hml, g10, g11, c1, c2, c5, c6, c7, c8, c9] <;> (try (intros; omega))
    simp only [Int.not_lt, Nat.not_lt] at c9
    by_cases c10 : mems.length < 1
    · simp [hc, hf, hml, g10, g11, c1, c2, c5, c6, c7, c8, c9, c10] <;> (try (intros; omega))
    simp only [Int.not_lt, Nat.not_lt] at c10
    by_cases c11 : 12 < mems.length
    · simp [hc, hf, hml, g10, g11, c1, c2, c5, c6, c7, c8, c9, c10, c11] <;> (try (intros; omega))
    simp only [Int.not_lt, Nat.not_lt] at c11
    simp [hc, hf, hml, g10, g11, c1, c2, c5, c6, c7, c8, c9, c10, c11] <;> (try (intros; omega))
  · by_cases c1 : data < 2
    · simp [hc, hf, hml, g10, g11, c1]
    by_cases c2 : 8 < data
    · simp [hc, hf, hml, g10, g11, c1, c2]
    by_cases c3 : data = 8
    · simp [hc, hf, hml, g10, g11, c1, c2, c3]
    by_cases c5 : mark < 0
    · simp [hc, hf, hml, g10, g11, c1, c2, c3, c5]
    by_cases c6 : slots < mark
    · simp [hc, hf, hml, g10, g11, c1, c2, c3, c5, c6]
    by_cases c7 : 0 < mark
    · by_cases c8 : built < 0
      · simp [hc, hf, hml, g10, g11, c1, c2, c3, c5, c6, c7, c8] <;> (try (intros; omega))
      simp only [Int.not_lt, Nat.not_lt] at c8
      by_cases c9 : slots < built
      · simp [hc, hf, hml, g10, g11, c1, c2, c3, c5, c6, c7, c8, c9] <;> (try (intros; omega))
      simp only [Int.not_lt, Nat.not_lt] at c9
      by_cases c10 : mems.length < 1
      · simp [hc, hf, hml, g10, g11, c1, c2, c3, c5, c6, c7, c8, c9, c10] <;> (try (intros; omega))
      simp only [Int.not_lt, Nat.not_lt] at c10
      by_cases c11 : 12 < mems.length
      · simp [hc, hf, hml, g10, g11, c1, c2, c3, c5, c6, c7, c8, c9, c10, c11] <;> (try (intros; omega))
      simp only [Int.not_lt, Nat.not_lt] at c11
      simp [hc, hf, hml, g10, g11, c1, c2, c3, c5, c6, c7, c8, c9, c10, c11] <;> (try (intros; omega))
    · by_cases c8 : built < 0
      · simp [hc, hf, hml, g10, g11, c1, c2, c3, c5, c6, c7, c8] <;> (try (intros; omega))
      simp only [Int.not_lt, Nat.not_lt] at c8
      by_cases c9 : slots < built
      · simp [hc, hf, hml, g10, g11, c1, c2, c3, c5, c6, c7, c8, c9] <;> (try (intros; omega))
      simp only [Int.not_lt, Nat.not_lt] at c9
      by_cases c10 : mems.length < 1
      · simp [hc, hf, hml, g10, g11, c1, c2, c3, c5, c6, c7, c8, c9, c10] <;> (try (intros; omega))
      simp only [Int.not_lt, Nat.not_lt] at c10
      by_cases c11 : 12 < mems.length
      · simp [hc, hf, hml, g10, g11, c1, c2, c3, c5, c6, c7, c8, c9, c10, c11] <;> (try (intros; omega))
      simp only [Int.not_lt, Nat.not_lt] at c11
      simp [hc, hf, hml, g10, g11, c1, c2, c3, c5, c6, c7, c8, c9, c10, c11] <;> (try (intros; omega))
    -- hc, hf, hml, g10, g11, c1, c2, c3, c5, c6


end Go.Proofs.YtaennaoaoahjmaaDoor
