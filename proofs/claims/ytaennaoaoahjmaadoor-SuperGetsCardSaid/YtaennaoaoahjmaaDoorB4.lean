/-
  The record's law: which seats are good: the program's walk.
-/
import Derived.Test.YtaennaoaoahjmaaDoorB2
set_option maxRecDepth 100000
set_option linter.unusedSimpArgs false
set_option linter.unusedVariables false
namespace Go.Proofs.YtaennaoaoahjmaaDoor
open Go.Det

def pm (l : List Int) : List (AV × AV) := l.map fun x => (AV.int .i64 x, AV.bool true)

theorem find_pm (y : Int) : ∀ l : List Int, findIn (.int .i64 y) (pm l) = some (if y ∈ l then some (.bool true) else none)
  | [] => rfl
  | x :: l => by
    have ih := find_pm y l
    simp only [pm, List.map_cons, findIn, sameKey] at ih ⊢
    by_cases h : y = x
    · simp [h]
    · have hb : (y == x) = false := by simpa using h
      simp only [if_true, hb, ih, List.mem_cons, h, false_or]

theorem set_pm (y : Int) : ∀ l : List Int, ¬ y ∈ l → setIn (.int .i64 y) (.bool true) (pm l) = pm (l ++ [y])
  | [], _ => rfl
  | x :: l, h => by
    simp only [List.mem_cons, not_or] at h
    have ih := set_pm y l h.2
    simp only [pm, List.map_cons, setIn, sameKey, List.cons_append] at ih ⊢
    simp [h.1, ih]

/-- The seats that are taken, if each may be; 'n' disks. -/
def sgo (n : Nat) : List Int → List Int → Option (List Int)
  | [], seen => some seen
  | x :: l, seen => if x < 0 then none else if (n : Int) ≤ x then none else if x ∈ seen then none else sgo n l (seen ++ [x])

def MP (M : Mem) : AV := .map (some ⟨M.length, 24000, 0, 0⟩)

def r25a (M : Mem) (c : Con) (v4 : AV) (es : List (AV × AV)) : Option (List Int) → Option (Ex × Env × Mem)
  | none => some (.ret, x56_0 (P0 M 0) (.bool false) v4, mk [(0, c), (24000, .map es true)] :: M)
  | some l => some (.exit 0, x56_0 (P0 M 0) .dead (MP M), mk [(0, c), (24000, .map (pm l) true)] :: M)

set_option maxHeartbeats 8000000 in
theorem l25a (C : Det.Calls) (M : Mem) (a : Rec) (sa ma : AV) (fa : Bool) (ha : IsRec M a sa ma) (N : Nat) (h1 : a.seats.length = N) (j : Nat) : ∀ (i n : Nat) (seen : List Int), i + j = N → j < n →
    ∃ es, fgt a56_0 (rnd0 (some (e56_0 (P0 M 0) (MP M) sa (.int .i64 N) (.int .i64 i), mk [(0, rCell a sa ma fa), (24000, .map (pm seen) true)] :: M)) k56_0 C s56_b0 n) =
      r25a M (rCell a sa ma fa) (MP M) es (sgo a.mems.length (a.seats.drop i) seen) := by
  have i1 := WS_ids ha.s
  have i2 := WM_ids ha.m
  have n2 := ha.m.len
  have hNl := ha.hs
  have hml := ha.hm
  induction j with
  | zero =>
    intro i n seen h hn
    obtain rfl : i = N := by omega
    refine ⟨[], ?_⟩
    rw [rnd0_some, List.drop_of_length_le (by omega)]
    conv => lhs; arg 2; arg 1; rw [s56_b0]
    simp [P0, MP, rCell, rcells, sgo, r25a, i1, i2]
  | succ j ih0 =>
    intro i n seen h hn
    obtain ⟨n, rfl⟩ : ∃ m, n = m + 1 := ⟨n - 1, by omega⟩
    have hi : i < N := by omega
    have hs1 := ha.s
    obtain ⟨d, id, z, rw_, fl, r, hvv, hd, hg⟩ := hs1.block (by omega)
    subst hvv
    have ga := map_app_get (AV.int .i64) a.seats r i (by omega)
    have hn1 : d ≠ M.length := by omega
    rw [drop_nth a.seats i (by omega)]
    clear hs1
    have ih := ih0 (i + 1) n (seen ++ [nth a.seats i]) (by omega) (by omega)
    clear ih0
    generalize a.seats.drop (i + 1) = rest at *
    generalize nth a.seats i = x at *
    have hf := find_pm x seen
    rw [rnd0_some]
    conv => enter [1, v3]; lhs; arg 2; arg 1; rw [s56_b0]
    by_cases c1 : x < 0
    · refine ⟨pm seen, ?_⟩
      simp (disch := omega) [hi, get_low, hd, hg, ga, h1, if_pos, hn1, IntWalk.i64_in, P0, MP, rCell, rcells, i1, i2, n2, sgo, r25a, c1]
    by_cases c2 : (a.mems.length : Int) ≤ x
    · refine ⟨pm seen, ?_⟩
      simp (disch := omega) [hi, get_low, hd, hg, ga, h1, if_pos, hn1, IntWalk.i64_in, P0, MP, rCell, rcells, i1, i2, n2, sgo, r25a, c1, c2]
    by_cases c3 : x ∈ seen
    · rw [if_pos c3] at hf
      refine ⟨pm seen, ?_⟩
      simp (disch := omega) [hi, get_low, hd, hg, ga, h1, if_pos, hn1, IntWalk.i64_in, P0, MP, rCell, rcells, i1, i2, n2, sgo, r25a, c1, c2, c3, hf, keyOk]
    · rw [if_neg c3] at hf
      have hst := set_pm x seen c3
      obtain ⟨es, ih⟩ := ih
      refine ⟨es, ?_⟩
      simp only [sgo, if_neg c1, if_neg c2, if_neg c3]
      simpa (disch := omega) [hi, get_low, hd, hg, ga, h1, if_pos, hn1, IntWalk.i64_in, P0, MP, rCell, rcells, i1, i2, n2, c1, c2, hf, hst, keyOk] using ih

end Go.Proofs.YtaennaoaoahjmaaDoor
