/-
  The record's law: records held against each other; copies.
-/
import Derived.Test.YtaennaoaoahjmaaDoorA
set_option maxRecDepth 100000
set_option linter.unusedSimpArgs false
set_option linter.unusedVariables false
namespace Go.Proofs.YtaennaoaoahjmaaDoor
open Go.Det

theorem WS_ids {α : Type} {M : Mem} {f : α → AV} {v : AV} {l : List α} (h : WS M f v l) : AV.ids M.length v = [] := by
  rcases h with ⟨e, rfl, rfl⟩ | ⟨e, rfl, rfl⟩ | ⟨d, id, z, rw_, fl, r, rfl, h2, h3⟩
  · rfl
  · rfl
  · have : d ≠ M.length := by omega
    simp [this]

theorem WM_ids {α : Type} {M : Mem} {n : Nat} {f : α → List AV} {v : AV} {l : List α} (h : WM M n f v l) : AV.ids M.length v = [] := by
  rcases h with ⟨e, rfl, rfl⟩ | ⟨e, rfl, rfl⟩ | ⟨d, id, z, rw_, fl, r, rfl, h2, h3⟩
  · rfl
  · rfl
  · have : d ≠ M.length := by omega
    simp [this]

def P0 (M : Mem) (id : Nat) : AV := .ptr (some ⟨M.length, id, 9, 0⟩)

def r14a (M : Mem) (ca cb : Con) (b : Bool) : Option (Ex × Env × Mem) :=
  if b then some (.exit 0, x23_0 (P0 M 0) (P0 M 4) .dead, mk [(0, ca), (4, cb)] :: M) else some (.ret, x23_0 (P0 M 0) (P0 M 4) (.bool false), mk [(0, ca), (4, cb)] :: M)

set_option maxHeartbeats 2000000 in
theorem l14a (C : Det.Calls) (M : Mem) (a b : Rec) (sa ma sb mb : AV) (fa fb : Bool) (ha : IsRec M a sa ma) (hb : IsRec M b sb mb) (N : Nat) (h1 : a.seats.length = N) (h2 : b.seats.length = N) (j : Nat) : ∀ (i n : Nat), i + j = N → j < n →
    fgt a23_0 (rnd0 (some (e23_0 (P0 M 0) (P0 M 4) (.int .i64 N) (.int .i64 i), mk [(0, .cells (rcells a sa ma) true fa), (4, .cells (rcells b sb mb) true fb)] :: M)) k23_0 C s23_b0 n) =
      r14a M (.cells (rcells a sa ma) true fa) (.cells (rcells b sb mb) true fb) (decide (a.seats.drop i = b.seats.drop i)) := by
  have i1 := WS_ids ha.s
  have i2 := WM_ids ha.m
  have i3 := WS_ids hb.s
  have i4 := WM_ids hb.m
  have hNl := ha.hs
  induction j with
  | zero =>
    intro i n h hn
    obtain rfl : i = N := by omega
    rw [rnd0_some, List.drop_of_length_le (by omega), List.drop_of_length_le (by omega)]
    conv => lhs; arg 2; arg 1; rw [s23_b0]
    simp [P0, rcells, r14a, i1, i2, i3, i4]
  | succ j ih0 =>
    intro i n h hn
    obtain ⟨n, rfl⟩ : ∃ m, n = m + 1 := ⟨n - 1, by omega⟩
    have hi : i < N := by omega
    have ih := ih0 (i + 1) n (by omega) (by omega)
    have hs1 := ha.s
    have hs2 := hb.s
    obtain ⟨d, id, z, rw_, fl, r, hvv, hd, hg⟩ := hs1.block (by omega)
    obtain ⟨d', id', z', rw', fl', r', hvv', hd', hg'⟩ := hs2.block (by omega)
    subst hvv hvv'
    have ga := map_app_get (AV.int .i64) a.seats r i (by omega)
    have gb := map_app_get (AV.int .i64) b.seats r' i (by omega)
    have hn1 : d ≠ M.length := by omega
    have hn2 : d' ≠ M.length := by omega
    rw [drop_nth a.seats i (by omega), drop_nth b.seats i (by omega)]
    rw [rnd0_some]
    conv => lhs; arg 2; arg 1; rw [s23_b0]
    generalize nth a.seats i = x at ga ⊢
    generalize nth b.seats i = y at gb ⊢
    by_cases hx : x = y
    · subst hx
      have e : (x :: a.seats.drop (i + 1) = x :: b.seats.drop (i + 1)) = (a.seats.drop (i + 1) = b.seats.drop (i + 1)) := by simp
      simp only [e]
      simpa (disch := omega) [hi, get_low, hd, hg, ga, hd', hg', gb, h1, h2, if_pos, hn1, hn2, IntWalk.i64_in, P0, rcells, i2, i4] using ih
    · have e : ¬ (x :: a.seats.drop (i + 1) = y :: b.seats.drop (i + 1)) := by simp [hx]
      simp only [e]
      simp (disch := omega) [hi, get_low, hd, hg, ga, hd', hg', gb, h1, h2, if_pos, hn1, hn2, IntWalk.i64_in, P0, rcells, hx, r14a, i2, i4]

end Go.Proofs.YtaennaoaoahjmaaDoor
