/-
  The record's law: which disks are good: the program's walk.
-/
import Derived.Test.YtaennaoaoahjmaaDoorE
set_option maxRecDepth 100000
set_option linter.unusedSimpArgs false
set_option linter.unusedVariables false
namespace Go.Proofs.YtaennaoaoahjmaaDoor
open Go.Det

def badM (m : Mb) : Bool := decide (m.st < 0) || (decide (m.st ≥ 4) || (decide (m.top.length ≠ 32) || decide (m.log.length ≠ 32)))

/-- How many are being built; none: one is bad. -/
def cnt : List Mb → Int → Option Int
  | [], b => some b
  | m :: l, b => if badM m = true then none else cnt l (if m.st = 3 then b + 1 else b)

def rCell (r : Rec) (sv mv : AV) (f : Bool) : Con := .cells (rcells r sv mv) true f

def r24 (M : Mem) (c : Con) (v3 : AV) : Option Int → Option (Ex × Env × Mem)
  | none => some (.ret, x55_0 (P0 M 0) (.bool false) v3, mk [(0, c)] :: M)
  | some b => some (.exit 0, x55_0 (P0 M 0) .dead (.int .i64 b), mk [(0, c)] :: M)

set_option maxHeartbeats 8000000 in
theorem l24 (C : Det.Calls) (M : Mem) (a : Rec) (sa ma : AV) (fa : Bool) (ha : IsRec M a sa ma) (N : Nat) (h1 : a.mems.length = N) (j : Nat) : ∀ (i n : Nat) (b : Int), i + j = N → j < n → -1 < b → b ≤ i →
    ∃ v3, fgt a55_0 (rnd0 (some (e55_0 (P0 M 0) (.int .i64 b) ma (.int .i64 N) (.int .i64 i), mk [(0, rCell a sa ma fa)] :: M)) k55_0 C s55_b0 n) =
      r24 M (rCell a sa ma fa) v3 (cnt (a.mems.drop i) b) := by
  have i1 := WS_ids ha.s
  have i2 := WM_ids ha.m
  have hNl := ha.hm
  induction j with
  | zero =>
    intro i n b h hn hb1 hb2
    obtain rfl : i = N := by omega
    refine ⟨.dead, ?_⟩
    rw [rnd0_some, List.drop_of_length_le (by omega)]
    conv => lhs; arg 2; arg 1; rw [s55_b0]
    simp [P0, rCell, rcells, cnt, r24, i1, i2]
  | succ j ih0 =>
    intro i n b h hn hb1 hb2
    obtain ⟨n, rfl⟩ : ∃ m, n = m + 1 := ⟨n - 1, by omega⟩
    have hi : i < N := by omega
    have hs1 := ha.m
    obtain ⟨d, id, z, rw_, fl, r, hvv, hd, hg⟩ := hs1.block (by omega)
    subst hvv
    have sa1 := flat_seg mc_len r a.mems i (by omega)
    have la : i * 3 + 3 ≤ (a.mems.flatMap mc ++ r).length := by rw [List.length_append, flat_len mc_len]; omega
    have hn1 : d ≠ M.length := by omega
    rw [drop_nth a.mems i (by omega)]
    have e1 : mc (nth a.mems i) = [.int .i64 (nth a.mems i).st, .str (nth a.mems i).top, .str (nth a.mems i).log] := rfl
    rw [e1] at sa1
    clear hs1 e1
    simp only [cnt, badM]
    have ih1 := ih0 (i + 1) n (b + 1) (by omega) (by omega) (by omega) (by omega)
    have ih2 := ih0 (i + 1) n b (by omega) (by omega) (by omega) (by omega)
    clear ih0
    generalize a.mems.drop (i + 1) = rest at *
    generalize a.mems.flatMap mc ++ r = BA at sa1 la hg
    generalize nth a.mems i = m at *
    obtain ⟨x1, x2, x3⟩ := m
    simp only at sa1 ⊢
    rw [rnd0_some]
    conv => enter [1, v3]; lhs; arg 2; arg 1; rw [s55_b0]
    by_cases c1 : x1 < 0
    · refine ⟨.int .i64 b, ?_⟩
      simp (disch := omega) [hi, get_low, hd, hg, sa1, la, h1, if_pos, hn1, IntWalk.i64_in, P0, rCell, rcells, r24, i1, i2, c1]
    by_cases c2 : 4 ≤ x1
    · refine ⟨.int .i64 b, ?_⟩
      simp (disch := omega) [hi, get_low, hd, hg, sa1, la, h1, if_pos, hn1, IntWalk.i64_in, P0, rCell, rcells, r24, i1, i2, c1, c2]
    by_cases c3 : x2.length = 32
    · by_cases c4 : x3.length = 32
      · have c3' : (x2.length : Int) = 32 := by omega
        have c4' : (x3.length : Int) = 32 := by omega
        by_cases c5 : x1 = 3
        · obtain ⟨v3, ih⟩ := ih1
          refine ⟨v3, ?_⟩
          simpa (disch := omega) [hi, get_low, hd, hg, sa1, la, h1, if_pos, hn1, IntWalk.i64_in, P0, rCell, rcells, i1, i2, c1, c2, c3, c4, c3', c4', c5] using ih
        · obtain ⟨v3, ih⟩ := ih2
          refine ⟨v3, ?_⟩
          simpa (disch := omega) [hi, get_low, hd, hg, sa1, la, h1, if_pos, hn1, IntWalk.i64_in, P0, rCell, rcells, i1, i2, c1, c2, c3, c4, c3', c4', c5] using ih
      · have c3' : (x2.length : Int) = 32 := by omega
        have c4' : ¬ (x3.length : Int) = 32 := by omega
        refine ⟨.int .i64 b, ?_⟩
        simp (disch := omega) [hi, get_low, hd, hg, sa1, la, h1, if_pos, hn1, IntWalk.i64_in, P0, rCell, rcells, r24, i1, i2, c1, c2, c3, c4, c3', c4']
    · have c3' : ¬ (x2.length : Int) = 32 := by omega
      refine ⟨.int .i64 b, ?_⟩
      simp (disch := omega) [hi, get_low, hd, hg, sa1, la, h1, if_pos, hn1, IntWalk.i64_in, P0, rCell, rcells, r24, i1, i2, c1, c2, c3, c3']

end Go.Proofs.YtaennaoaoahjmaaDoor
