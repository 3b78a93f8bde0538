/-
  The record's law: a record's bytes: the disks.
-/
import Derived.Test.YtaennaoaoahjmaaL
set_option maxRecDepth 100000
set_option linter.unusedSimpArgs false
set_option linter.unusedVariables false
namespace Go.Proofs.Ytaennaoaoahjmaa
open Go.Det

theorem et_len (s : List UInt8) : (et s).length = 8 + s.length := by rw [et, List.length_append, K.be8_len]

set_option maxHeartbeats 8000000 in
theorem l8b (k : Nat) (M : Mem) (ma : AV) (ms : List Mb) (N : Nat) (h1 : ms.length = N) (hN : N < 100) (hm : WM M 3 mc ma ms) (hg32 : ∀ m ∈ ms, m.top.length = 32 ∧ m.log.length = 32) (j : Nat) : ∀ (i n : Nat) (t : List UInt8), i + j = N → j < n → 0 < t.length → t.length + 88 * j < 2 ^ 40 →
    fgt a8_1 (rnd0 (some (e8_1 (bV M.length) (wV M.length) ma (.int .i64 N) (.int .i64 i), mk [(12000, bB M.length 20032 t), (20032, .buf 5 t true)] :: M)) k8_1 (callFn SP (k + 3)) s8_b1 n) =
      some (.exit 2, x8_1 (bV M.length), mk [(12000, bB M.length 20032 (t ++ mTs (ms.drop i))), (20032, .buf 5 (t ++ mTs (ms.drop i)) true)] :: M) := by
  have i2 := WM_ids hm
  induction j with
  | zero =>
    intro i n t h hn ht hb
    obtain rfl : i = N := by omega
    rw [rnd0_some, List.drop_of_length_le (by omega)]
    conv => lhs; arg 2; arg 1; rw [s8_b1]
    simp [bV, wV, bB, mTs, i2]
  | succ j ih0 =>
    intro i n t h hn ht hb
    obtain ⟨n, rfl⟩ : ∃ m, n = m + 1 := ⟨n - 1, by omega⟩
    have hi : i < N := by omega
    obtain ⟨d, id, z, rw_, fl, r, hvv, hd, hg⟩ := hm.block (by omega)
    subst hvv
    have sa1 := flat_seg mc_len r ms i (by omega)
    have la : i * 3 + 3 ≤ (ms.flatMap mc ++ r).length := by rw [List.length_append, flat_len mc_len]; omega
    have hn1 : d ≠ M.length := by omega
    have e1 : mc (nth ms i) = [.int .i64 (nth ms i).st, .str (nth ms i).top, .str (nth ms i).log] := rfl
    rw [e1] at sa1
    clear e1
    have e0 : t ++ mTs (ms.drop i) = t ++ mT (nth ms i) ++ mTs (ms.drop (i + 1)) := by rw [drop_nth ms i (by omega)]; simp [mTs]
    rw [e0]
    have hmem : nth ms i ∈ ms := List.mem_of_getElem? (getElem?_nth ms i (by omega))
    have h32 := hg32 _ hmem
    have ih1 := fun t => ih0 (i + 1) n t (by omega) (by omega)
    clear ih0 hm
    generalize ms.drop (i + 1) = rest at *
    generalize ms.flatMap mc ++ r = BA at sa1 la hg
    generalize nth ms i = m at *
    obtain ⟨x1, x2, x3⟩ := m
    simp only [mT, b8] at sa1 h32 ⊢
    have hl8 := K.be8_len (BitVec.ofInt 64 x1)
    have hn8 := fun l => num_ev (k + 1) (mk l :: ro M) (BitVec.ofInt 64 x1)
    have ht2 := fun l => text_ev k (mk l :: ro M) x2 (by omega)
    have ht3 := fun l => text_ev k (mk l :: ro M) x3 (by omega)
    have hl2 := et_len x2
    have hl3 := et_len x3
    rw [h32.1] at hl2
    rw [h32.2] at hl3
    have hcv : aconv .u64 (.int .i64 x1) = some (u64 (BitVec.ofInt 64 x1)) := by simp
    generalize K.be8 (BitVec.ofInt 64 x1) = b1 at *
    generalize et x2 = b2 at *
    generalize et x3 = b3 at *
    have ih := ih1 (t ++ (b1 ++ b2 ++ b3)) (by simp; omega) (by simp; omega)
    clear ih1
    generalize mTs rest = rr at *
    have htne : ¬ t.length = 0 := by omega
    rw [rnd0_some]
    conv => lhs; arg 2; arg 1; rw [s8_b1]
    simpa (disch := omega) [hi, get_low, hd, hg, sa1, la, h1, if_pos, hn1, IntWalk.i64_in, bV, wV, bB, i2, hn8, ht2, ht3, hcv, hl8, hl2, hl3, ht, htne] using ih

end Go.Proofs.Ytaennaoaoahjmaa
