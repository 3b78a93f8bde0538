/-
  The record's law: which seats are good, the second loop: the program's walk.
-/
import Derived.Test.YtaennaoaoahjmaaDoorB4
set_option maxRecDepth 100000
set_option linter.unusedSimpArgs false
set_option linter.unusedVariables false
namespace Go.Proofs.YtaennaoaoahjmaaDoor
open Go.Det


def mgo (seen : List Int) : List Mb → Nat → Bool
  | [], _ => true
  | m :: l, i => if ¬ m.st = 2 ∧ (decide ((i : Int) ∈ seen) = decide (m.st = 0)) then false else mgo seen l (i + 1)

def r25b (M : Mem) (b : Bool) : Option (Ex × Env × Mem) := if b then some (.exit 2, x56_1 .dead, mk [] :: M) else some (.ret, x56_1 (.bool false), mk [] :: M)

set_option maxHeartbeats 8000000 in
theorem l25b (C : Det.Calls) (M : Mem) (ma : AV) (ms : List Mb) (seen : List Int) (N : Nat) (h1 : ms.length = N) (hN : N < 2 ^ 40) (hm : WM M 3 mc ma ms) (j : Nat) : ∀ (i n : Nat), i + j = N → j < n →
    fgt a56_1 (rnd0 (some (e56_1 (MP M) ma (.int .i64 N) (.int .i64 i), mk [(24000, .map (pm seen) true)] :: M)) k56_1 C s56_b1 n) = r25b M (mgo seen (ms.drop i) i) := by
  have i2 := WM_ids hm
  induction j with
  | zero =>
    intro i n h hn
    obtain rfl : i = N := by omega
    rw [rnd0_some, List.drop_of_length_le (by omega)]
    conv => lhs; arg 2; arg 1; rw [s56_b1]
    simp [MP, mgo, r25b, i2]
  | succ j ih0 =>
    intro i n h hn
    obtain ⟨n, rfl⟩ : ∃ m, n = m + 1 := ⟨n - 1, by omega⟩
    have hi : i < N := by omega
    obtain ⟨d, id, z, rw_, fl, r, hvv, hd, hg⟩ := hm.block (by omega)
    subst hvv
    have sa1 := flat_seg mc_len r ms i (by omega)
    have la : i * 3 + 3 ≤ (ms.flatMap mc ++ r).length := by rw [List.length_append, flat_len mc_len]; omega
    have hn1 : d ≠ M.length := by omega
    rw [drop_nth ms i (by omega)]
    have e1 : mc (nth ms i) = [.int .i64 (nth ms i).st, .str (nth ms i).top, .str (nth ms i).log] := rfl
    rw [e1] at sa1
    clear e1
    have ih := ih0 (i + 1) n (by omega) (by omega)
    clear ih0 hm
    generalize ms.drop (i + 1) = rest at *
    generalize ms.flatMap mc ++ r = BA at sa1 la hg
    generalize nth ms i = m at *
    obtain ⟨x1, x2, x3⟩ := m
    simp only at sa1 ⊢
    have hf := find_pm i seen
    rw [rnd0_some]
    conv => lhs; arg 2; arg 1; rw [s56_b1]
    by_cases c1 : x1 = 2
    · have e : mgo seen (⟨x1, x2, x3⟩ :: rest) i = mgo seen rest (i + 1) := by simp [mgo, c1]
      rw [e]
      simpa (disch := omega) [hi, get_low, hd, hg, sa1, la, h1, if_pos, hn1, IntWalk.i64_in, MP, i2, c1] using ih
    by_cases c2 : (i : Int) ∈ seen
    · rw [if_pos c2] at hf
      by_cases c3 : x1 = 0
      · have e : mgo seen (⟨x1, x2, x3⟩ :: rest) i = false := by simp [mgo, c1, c2, c3]
        rw [e]
        simp (disch := omega) [hi, get_low, hd, hg, sa1, la, h1, if_pos, hn1, IntWalk.i64_in, MP, i2, c1, c3, hf, keyOk, r25b]
      · have e : mgo seen (⟨x1, x2, x3⟩ :: rest) i = mgo seen rest (i + 1) := by simp [mgo, c1, c2, c3]
        rw [e]
        simpa (disch := omega) [hi, get_low, hd, hg, sa1, la, h1, if_pos, hn1, IntWalk.i64_in, MP, i2, c1, c3, hf, keyOk] using ih
    · rw [if_neg c2] at hf
      by_cases c3 : x1 = 0
      · have e : mgo seen (⟨x1, x2, x3⟩ :: rest) i = mgo seen rest (i + 1) := by simp [mgo, c1, c2, c3]
        rw [e]
        simpa (disch := omega) [hi, get_low, hd, hg, sa1, la, h1, if_pos, hn1, IntWalk.i64_in, MP, i2, c1, c3, hf, keyOk] using ih
      · have e : mgo seen (⟨x1, x2, x3⟩ :: rest) i = false := by simp [mgo, c1, c2, c3]
        rw [e]
        simp (disch := omega) [hi, get_low, hd, hg, sa1, la, h1, if_pos, hn1, IntWalk.i64_in, MP, i2, c1, c3, hf, keyOk, r25b]

end Go.Proofs.YtaennaoaoahjmaaDoor
