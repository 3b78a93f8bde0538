/-
  The record's law: which records are good, as the document says: the loops.
-/
import Derived.Test.YtaennaoaoahjmaaDoorV0
set_option maxRecDepth 100000
set_option linter.unusedSimpArgs false
set_option linter.unusedVariables false
namespace Go.Proofs.YtaennaoaoahjmaaDoor
open Go.Det

def r12b (M : Mem) (c : Con) (v5 : AV) (b : Bool) : Option (Ex × Env × Mem) :=
  if b then some (.exit 2, x57_1 (P0 M 0) .dead v5, mk [(0, c)] :: M) else some (.ret, x57_1 (P0 M 0) (.bool false) v5, mk [(0, c)] :: M)

set_option maxHeartbeats 8000000 in
theorem l12b (C : Det.Calls) (M : Mem) (a : Rec) (sa ma : AV) (fa : Bool) (ha : IsRec M a sa ma) (b : Int) (N : Nat) (h1 : a.seats.length = N) (j : Nat) : ∀ (i n : Nat), i + j = N → j < n →
    fgt a57_1 (rnd0 (some (e57_1 (P0 M 0) (.int .i64 b) (.int .i64 i), mk [(0, rCell a sa ma fa)] :: M)) k57_1 C s57_b1 n) =
      r12b M (rCell a sa ma fa) (.int .i64 b) (inR a.mems.length (a.seats.drop i)) := by
  have i1 := WS_ids ha.s
  have i2 := WM_ids ha.m
  have n1 := ha.s.len
  have n2 := ha.m.len
  have hNl := ha.hs
  rw [h1] at n1
  induction j with
  | zero =>
    intro i n h hn
    obtain rfl : i = N := by omega
    rw [rnd0_some, List.drop_of_length_le (by omega)]
    conv => lhs; arg 2; arg 1; rw [s57_b1]
    simp [P0, rCell, rcells, inR, r12b, i1, i2, n1]
  | succ j ih0 =>
    intro i n h hn
    obtain ⟨n, rfl⟩ : ∃ m, n = m + 1 := ⟨n - 1, by omega⟩
    have hi : i < N := by omega
    have hs1 := ha.s
    obtain ⟨d, id, z, rw_, fl, r, hvv, hd, hg⟩ := hs1.block (by omega)
    subst hvv
    have ga := map_app_get (AV.int .i64) a.seats r i (by omega)
    have hn1 : d ≠ M.length := by omega
    rw [drop_nth a.seats i (by omega)]
    have ih := ih0 (i + 1) n (by omega) (by omega)
    clear ih0 hs1
    simp only [inR, List.all_cons] at ih ⊢
    generalize (a.seats.drop (i + 1)).all (fun x => decide (0 ≤ x ∧ x < (a.mems.length : Int))) = rest at *
    generalize nth a.seats i = y at *
    rw [rnd0_some]
    conv => lhs; arg 2; arg 1; rw [s57_b1]
    by_cases c1 : y < 0
    · have c1' : ¬ 0 ≤ y := by omega
      simp (disch := omega) [hi, get_low, hd, hg, ga, h1, if_pos, hn1, IntWalk.i64_in, P0, rCell, rcells, i1, i2, n1, n2, r12b, c1, c1']
    · by_cases c2 : (a.mems.length : Int) ≤ y
      · have c2' : ¬ y < (a.mems.length : Int) := by omega
        simp (disch := omega) [hi, get_low, hd, hg, ga, h1, if_pos, hn1, IntWalk.i64_in, P0, rCell, rcells, i1, i2, n1, n2, r12b, c1, c2, c2']
      · have c1' : 0 ≤ y := by omega
        have c2' : y < (a.mems.length : Int) := by omega
        simp only [c1', c2', and_self, decide_true, Bool.true_and]
        simpa (disch := omega) [hi, get_low, hd, hg, ga, h1, if_pos, hn1, IntWalk.i64_in, P0, rCell, rcells, i1, i2, n1, n2, c1, c2] using ih

end Go.Proofs.YtaennaoaoahjmaaDoor
