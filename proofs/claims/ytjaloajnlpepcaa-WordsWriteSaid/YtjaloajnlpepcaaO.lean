/-
  The document's text of words.
-/
import Derived.Test.YtjaloajnlpepcaaP
namespace Go.Proofs.Ytjaloajnlpepcaa
open Go.Det
set_option maxRecDepth 100000
set_option maxHeartbeats 4000000
set_option linter.unusedSimpArgs false
set_option linter.unusedVariables false

def nn (x : BitVec 32) : Nat → BitVec 32
  | 0 => x
  | k + 1 => nn x k / 256#32
def dg (x : BitVec 32) (k : Nat) : UInt8 := low8 (nn x k % 256#32)
def bb (big : Bool) (x : BitVec 32) (kk : Nat) : List UInt8 := (List.range 4).map fun p => if (if big then 3 - p else p) < kk then dg x (if big then 3 - p else p) else 0

theorem bb_len (big : Bool) (x : BitVec 32) (kk : Nat) : (bb big x kk).length = 4 := by simp [bb]
theorem bb_set (big : Bool) (x : BitVec 32) (kk : Nat) (h : kk < 4) : (bb big x kk).set (if big then 3 - kk else kk) (dg x kk) = bb big x (kk + 1) := by
  match kk, h with
  | 0, _ => cases big <;> rfl
  | 1, _ => cases big <;> rfl
  | 2, _ => cases big <;> rfl
  | 3, _ => cases big <;> rfl
theorem nn_nat (x : BitVec 32) : ∀ k, (nn x k).toNat = x.toNat / 256 ^ k
  | 0 => by simp [nn]
  | k + 1 => by
    rw [nn, BitVec.toNat_udiv, nn_nat x k, Nat.div_div_eq_div_mul, Nat.pow_succ]; rfl
theorem dg_eq (x : BitVec 32) (k : Nat) : dg x k = low8 (x >>> (8 * k)) := by
  apply b8_eq
  rw [dg, low8_toNat, low8_toNat, BitVec.toNat_umod, nn_nat, BitVec.toNat_ushiftRight, Nat.shiftRight_eq_div_pow, Nat.pow_mul]
  show x.toNat / 256 ^ k % 256 % 256 = x.toNat / 256 ^ k % 256
  rw [Nat.mod_mod]
theorem bb_all (big : Bool) (x : BitVec 32) : bb big x 4 = by4 big x := by
  cases big
  · show [dg x 0, dg x 1, dg x 2, dg x 3] = _
    simp only [dg_eq]
    rfl
  · show [dg x 3, dg x 2, dg x 1, dg x 0] = _
    simp only [dg_eq]
    rfl

/-- What stands in memory while a word is laid. -/
def bm (first : Bool) (b : List UInt8) (out : List AV) : List (Nat × Con) :=
  if first then (20000, .cells (b.map byteAV) true true) :: gm 72020 true out else gm 72020 true out ++ [(20000, .cells (b.map byteAV) true true)]

theorem l22_1 (C : Det.Calls) (M : Mem) (v : AV) (big : Bool) (x : BitVec 32) (i : Int) (d id z N : Nat) (hd : d < M.length) (first : Bool) (out : List AV) (hf : first = true ↔ out = []) (j : Nat) :
    ∀ (kk n : Nat), kk + j = 4 → j < n →
    fgt a22_1 (rnd0 (some (e22_1 (.slice (some ⟨d, id, z, 0⟩) N 1) (.bool big) (gv M.length 72020 out) (.int .i64 i) (.ptr (some ⟨M.length, 20000, 4, 0⟩)) (u32 (nn x kk)) (.int .i64 kk), mk (bm first (bb big x kk) out) :: M)) k22_1 C s22_b1 n) =
      some (.exit 2, x22_1 (.slice (some ⟨d, id, z, 0⟩) N 1) (.bool big) (gv M.length 72020 out) (.int .i64 i) (.ptr (some ⟨M.length, 20000, 4, 0⟩)), mk (bm first (by4 big x) out) :: M) := by
  have hn1 : d ≠ M.length := by omega
  induction j with
  | zero =>
    intro kk n h hn
    obtain rfl : kk = 4 := by omega
    rw [rnd0_some]
    conv => lhs; arg 2; arg 1; rw [s22_b1]
    rw [bb_all]
    cases first
    · have hne : out ≠ [] := fun h => by simpa using hf.2 h
      simp [bm, gv_ne _ _ _ hne, gm_ne _ _ _ hne, hn1]
    · obtain rfl := hf.1 rfl
      simp [bm, gv_nil, gm_nil, hn1]
  | succ j ih0 =>
    intro kk n h hn
    obtain ⟨n, rfl⟩ : ∃ m, n = m + 1 := ⟨n - 1, by omega⟩
    have hk : kk < 4 := by omega
    have ih := ih0 (kk + 1) n (by omega) (by omega)
    have hb := bb_set big x kk hk
    have hl := bb_len big x kk
    rw [show nn x (kk + 1) = nn x kk / 256#32 from rfl] at ih
    have hg : low8 (nn x kk % 256#32) = dg x kk := rfl
    rw [rnd0_some]
    conv => lhs; arg 2; arg 1; rw [s22_b1]
    cases big
    · simp at hb
      cases first
      · have hne : out ≠ [] := fun h => by simpa using hf.2 h
        simpa (disch := omega) [-List.map_set, bm, gv_ne _ _ _ hne, gm_ne _ _ _ hne, hn1, hk, hl, hb, hg, if_pos, IntWalk.i64_in] using ih
      · obtain rfl := hf.1 rfl
        simpa (disch := omega) [-List.map_set, bm, gv_nil, gm_nil, hn1, hk, hl, hb, hg, if_pos, IntWalk.i64_in] using ih
    · simp at hb
      have t0 : (3 - (kk : Int)).toNat = 3 - kk := by omega
      cases first
      · have hne : out ≠ [] := fun h => by simpa using hf.2 h
        simpa (disch := omega) [-List.map_set, bm, gv_ne _ _ _ hne, gm_ne _ _ _ hne, hn1, hk, hl, hb, hg, t0, if_pos, IntWalk.i64_in] using ih
      · obtain rfl := hf.1 rfl
        simpa (disch := omega) [-List.map_set, bm, gv_nil, gm_nil, hn1, hk, hl, hb, hg, t0, if_pos, IntWalk.i64_in] using ih

end Go.Proofs.Ytjaloajnlpepcaa
