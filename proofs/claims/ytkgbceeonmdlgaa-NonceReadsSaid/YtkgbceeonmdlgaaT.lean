/-
  NONCE: behind the last number none is told; the epoch and the number of every text are the document's.
-/
import Derived.Test.YtkgbceeonmdlgaaR
import Derived.Test.YtkgbceeonmdlgaaDetV
set_option maxRecDepth 100000
set_option maxHeartbeats 4000000
set_option linter.unusedSimpArgs false
set_option linter.unusedVariables false
namespace Go.Proofs.Ytkgbceeonmdlgaa
open Go.Det Go.Det.K

theorem l4_0 (k : Nat) (M : Mem) (e : BitVec 64) (r : Int) (N : Nat) (hN : N ≤ 256) (fl : Bool) (j : Nat) : ∀ (i n : Nat) (x : BitVec 64), i + j = N → j < n → x.toNat + j = 4294967296 →
    fgt a4_0 (rnd0 (some (e4_0 (.ptr (some ⟨M.length, 12020, 2, 0⟩)) (.int .i64 r) (.int .i64 N) (.int .i64 i), mk [(12020, .cells [u64 e, u64 x] true fl)] :: M)) k4_0 (callFn SP (k + 6)) s4_b0 n) =
      some (.exit 0, x4_0 .dead (.ptr (some ⟨M.length, 12020, 2, 0⟩)) (.int .i64 r), mk [(12020, .cells [u64 e, u64 4294967296#64] true fl)] :: M) := by
  induction j with
  | zero =>
    intro i n x h hn hx
    obtain rfl : i = N := by omega
    obtain rfl : x = 4294967296#64 := BitVec.eq_of_toNat_eq hx
    rw [rnd0_some]
    conv => lhs; arg 2; arg 1; rw [s4_b0]
    simp
  | succ j ih0 =>
    intro i n x h hn hx
    obtain ⟨n, rfl⟩ : ∃ m, n = m + 1 := ⟨n - 1, by omega⟩
    have hi : i < N := by omega
    have hle : x ≤ 4294967295#64 := by rw [BitVec.le_def]; show _ ≤ 4294967295; omega
    have hx1 : (x + 1#64).toNat = x.toNat + 1 := by
      rw [BitVec.toNat_add]
      show (x.toNat + 1) % 2 ^ 64 = _
      exact Nat.mod_eq_of_lt (by omega)
    have ih := ih0 (i + 1) n (x + 1#64) (by omega) (by omega) (by rw [hx1]; omega)
    rw [rnd0_some]
    conv => lhs; arg 2; arg 1; rw [s4_b0]
    simpa (disch := first | omega | assumption | (simp; done) | (simp; omega)) [hi, next_top_ok, IntWalk.i64_in] using ih

theorem l4_1 (k : Nat) (M : Mem) (e : BitVec 64) (r : Int) (fl : Bool) (n : Nat) :
    fgt a4_1 (rnd0 (some (e4_1 (.ptr (some ⟨M.length, 12020, 2, 0⟩)) (.int .i64 r) (.int .i64 0), mk [(12020, .cells [u64 e, u64 4294967296#64] true fl)] :: M)) k4_1 (callFn SP (k + 6)) s4_b1 (n + 3)) =
      some (.exit 2, x4_1 .dead (.int .i64 r), mk [] :: M) := by
  have w1 : IntKind.wrap .i64 1 = 1 := rfl
  have w2 : IntKind.wrap .i64 2 = 2 := rfl
  have w3 : IntKind.wrap .i64 3 = 3 := rfl
  have hno : ¬ (4294967296#64 : BitVec 64) ≤ 4294967295#64 := by decide
  have hx := fun k M id fl l => next_top_no k M id e 4294967296#64 fl l hno
  rw [rnd0_some]
  conv => lhs; arg 2; arg 1; rw [s4_b1]
  simp (disch := first | omega | (simp; done) | (simp; omega)) [hx, left_top', w1, w2, w3]
  rw [rnd0_some]
  conv => lhs; arg 2; arg 1; rw [s4_b1]
  simp (disch := first | omega | (simp; done) | (simp; omega)) [hx, left_top', w1, w2, w3]
  rw [rnd0_some]
  conv => lhs; arg 2; arg 1; rw [s4_b1]
  simp (disch := first | omega | (simp; done) | (simp; omega)) [hx, left_top', w1, w2, w3]
  rw [rnd0_some]
  conv => lhs; arg 2; arg 1; rw [s4_b1]
  simp (disch := first | omega | (simp; done) | (simp; omega)) [hx, left_top', w1, w2, w3]

theorem law4 (k : Nat) (M : Mem) (e : BitVec 32) (m : UInt8) : callFn SP (k + 7) 4 [u32 e, byteAV m] M = some (.bool true, [], M) := by
  rw [call_fn (by rfl) (by simp)]
  by_cases h0 : e = 0#32
  · simp (disch := omega) [h0, wakes16]
  · have hm := m.toNat_lt
    have he := e.isLt
    have hme : mayE (e.setWidth 64) := by
      have h1 : e.toNat ≠ 0 := fun h => h0 (BitVec.eq_of_toNat_eq h)
      unfold mayE
      rw [BitVec.le_def, BitVec.le_def, BitVec.toNat_setWidth]
      refine ⟨?_, ?_⟩
      · show 1 ≤ _; omega
      · show _ ≤ 4294967295; omega
    obtain ⟨x, hx⟩ : ∃ x, 4294967295#64 - BitVec.setWidth 64 m.toBitVec = x := ⟨_, rfl⟩
    have hxn : x.toNat = 4294967295 - m.toNat := by
      rw [← hx, BitVec.toNat_sub, BitVec.toNat_setWidth, UInt8.toNat_toBitVec]
      show (2 ^ 64 - m.toNat % 2 ^ 64 + 4294967295) % 2 ^ 64 = _
      omega
    have hxle : x ≤ 4294967295#64 := by rw [BitVec.le_def, hxn]; show _ ≤ 4294967295; omega
    have hnw := fun k M => new_ok k M (e.setWidth 64) x ⟨hme, hxle⟩
    simp only [sc] at hnw
    have q0 := l4_0 k M (e.setWidth 64) 0 (m.toNat + 1) (by omega) true (m.toNat + 1) 0 (m.toNat + 2) x (by omega) (by omega) (by omega)
    have q1 := l4_1 k M (e.setWidth 64) 0 true 1
    simp (disch := omega) [h0, hx, hnw, IntWalk.i64_in]
    rw [ev_loop (m.toNat + 2) (by simp) q0 (by omega)]
    simp (disch := omega) []
    rw [ev_loop 4 (by simp) q1 (by omega)]
    simp (disch := omega) [wakes16]

theorem ev_NonceEnds (s : Scope) (args : List AV) (h : ArgsShp s [.int .u32, .int .u8] args) : ∃ k M', callFn SP k 4 args [s, mk []] = some (.bool true, [], M') := by
  obtain ⟨_, _, rfl, h1, _, _, rfl, h2, rfl⟩ := h
  obtain ⟨e, rfl⟩ := ArgShp_u32 h1
  obtain ⟨x, rfl⟩ := ArgShp_u8 h2
  exact ⟨7, _, law4 0 [s, mk []] e x⟩

/-! ### numbers read -/
theorem l11 (k : Nat) (M : Mem) (a b c : List UInt8) (ha : a.length < 2 ^ 48) (hb : b.length < 2 ^ 48) (hc : c.length < 2 ^ 48) (n : Nat) :
    fgt a11_0 (rnd0 (some (e11_0 (.slice (some ⟨M.length, 4024, 3, 0⟩) 3 1) (.int .i64 3) (.int .i64 0), mk [(4024, .cells [.str a, .str b, .str c] true true)] :: M)) k11_0 (callFn SP (k + 6)) s11_b0 (n + 3)) =
      some (.exit 0, x11_0 .dead, mk [] :: M) := by
  have w1 : IntKind.wrap .i64 1 = 1 := rfl
  have w2 : IntKind.wrap .i64 2 = 2 := rfl
  have w3 : IntKind.wrap .i64 3 = 3 := rfl
  rw [rnd0_some]
  conv => lhs; arg 2; arg 1; rw [s11_b0]
  simp (disch := omega) [read_ev, refread_ev, w1, w2, w3]
  rw [rnd0_some]
  conv => lhs; arg 2; arg 1; rw [s11_b0]
  simp (disch := omega) [read_ev, refread_ev, w1, w2, w3]
  rw [rnd0_some]
  conv => lhs; arg 2; arg 1; rw [s11_b0]
  simp (disch := omega) [read_ev, refread_ev, w1, w2, w3]
  rw [rnd0_some]
  conv => lhs; arg 2; arg 1; rw [s11_b0]
  simp (disch := omega) [read_ev, refread_ev, w1, w2, w3]

theorem law11 (k : Nat) (M : Mem) (b s : List UInt8) (hb : b.length = 12) (hs : s.length < 2 ^ 48) : callFn SP (k + 7) 11 [.agg (b.map byteAV), .str s] M = some (.bool true, [], M) := by
  obtain ⟨C, hC⟩ : ∃ C, b.map byteAV = C := ⟨_, rfl⟩
  have h1 : C.length = 12 := by rw [← hC]; simp [hb]
  have h2 : AV.unders 0 C = true := by rw [← hC]; simp
  have h3 : bytesOf (C.take 12) = some b := by rw [← hC, List.take_of_length_le (by simp [hb]), bytesOf_map]
  have h4 : bytesOf ((C.drop 4).take 8) = some (b.drop 4) := by rw [← hC, ← List.map_drop, List.take_of_length_le (by simp [hb]), bytesOf_map]
  have q := l11 k M b s ([0, 0, 0, 0] ++ b.drop 4) (by omega) hs (by simp; omega) 1
  rw [hC, call_fn (by rfl) (by simp)]
  simp only [List.cons_append, List.nil_append] at q
  simp (disch := omega) [h1, h2, h3, h4, hb, if_pos]
  rw [ev_loop 4 (by simp) q (by omega)]
  simp (disch := omega) [wakes16]

theorem ev_NonceReads (s : Scope) (args : List AV) (h : ArgsShp s [.arr 12 (.int .u8), .str] args) : ∃ k M', callFn SP k 11 args [s, mk []] = some (.bool true, [], M') := by
  obtain ⟨_, _, rfl, h1, _, _, rfl, h2, rfl⟩ := h
  obtain ⟨b, hb, rfl⟩ := ArgShp_arr8 h1
  obtain ⟨x, rfl, hx⟩ := ArgShp_str h2
  unfold reachBytes at hx
  exact ⟨7, _, law11 0 [s, mk []] b x hb (by omega)⟩
end Go.Proofs.Ytkgbceeonmdlgaa
