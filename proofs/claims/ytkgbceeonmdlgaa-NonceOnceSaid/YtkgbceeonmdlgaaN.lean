/-
  NONCE: what each function comes to.
-/
import Derived.Test.YtkgbceeonmdlgaaA
import Derived.Test.YtkgbceeonmdlgaaDetU
set_option maxRecDepth 100000
set_option maxHeartbeats 4000000
set_option linter.unusedSimpArgs false
set_option linter.unusedVariables false
namespace Go.Proofs.Ytkgbceeonmdlgaa
open Go.Det Go.Det.K

def sc (e n : BitVec 64) (fl : Bool) : Con := .cells [u64 e, u64 n] true fl
def mayE (e : BitVec 64) : Prop := 1#64 ≤ e ∧ e ≤ 4294967295#64
instance (e : BitVec 64) : Decidable (mayE e) := by unfold mayE; infer_instance

theorem may_ev (k : Nat) (M : Mem) (e : BitVec 64) : callFn SP (k + 1) 37 [u64 e] M = some (.bool (decide (mayE e)), [], M) := by
  rw [call_fn (by rfl) (by simp)]
  unfold mayE
  by_cases h1 : 1#64 ≤ e <;> by_cases h2 : e ≤ 4294967295#64 <;> simp (disch := omega) [h1, h2]

theorem refmay_ev (k : Nat) (M : Mem) (e n : BitVec 64) : callFn SP (k + 1) 15 [u64 e, u64 n] M = some (.bool (decide (mayE e ∧ n ≤ 4294967295#64)), [], M) := by
  rw [call_fn (by rfl) (by simp)]
  unfold mayE
  by_cases h1 : 1#64 ≤ e <;> by_cases h2 : e ≤ 4294967295#64 <;> by_cases h3 : n ≤ 4294967295#64 <;> simp (disch := omega) [h1, h2, h3]

theorem new_ok (k : Nat) (M : Mem) (e n : BitVec 64) (h : mayE e ∧ n ≤ 4294967295#64) : callFn SP (k + 2) 13 [u64 e, u64 n] M = some (.tuple [.ptr (some ⟨M.length, 0, 2, 0⟩), .int .i64 0], [sc e n true], M) := by
  rw [call_fn (by rfl) (by simp)]
  have h3 : ¬ 4294967295#64 < n := by have := h.2; bv_omega
  simp (disch := omega) [may_ev, h.1, h3, sc, if_pos]

theorem new_no (k : Nat) (M : Mem) (e n : BitVec 64) (h : ¬ (mayE e ∧ n ≤ 4294967295#64)) : callFn SP (k + 2) 13 [u64 e, u64 n] M = some (.tuple [.ptr none, .int .i64 2], [], M) := by
  rw [call_fn (by rfl) (by simp)]
  by_cases h1 : mayE e
  · have h3 : 4294967295#64 < n := by have : ¬ n ≤ 4294967295#64 := fun h2 => h ⟨h1, h2⟩; bv_omega
    simp (disch := omega) [may_ev, h1, h3, sc, if_pos]
  · simp (disch := omega) [may_ev, h1, sc, if_pos]

/-- One of the numbers. -/
def one (e n : BitVec 64) : List UInt8 := be8 e ++ W.tx true [n.setWidth 32]

theorem next_nil (k : Nat) (M : Mem) : callFn SP (k + 1) 16 [.ptr none] M = some (.tuple [.str [], .int .i64 1], [], M) := by
  rw [call_fn (by rfl) (by simp)]
  simp (disch := omega) [if_pos]
theorem left_nil (k : Nat) (M : Mem) : callFn SP (k + 1) 17 [.ptr none] M = some (u64 0#64, [], M) := by
  rw [call_fn (by rfl) (by simp)]
  simp (disch := omega) [if_pos]
theorem left_ev (k : Nat) (M : Mem) (d id : Nat) (e n : BitVec 64) (fl : Bool) (hd : d < M.length) (hg : ∀ o, get M ⟨d, id, 2, o⟩ = some (sc e n fl)) : callFn SP (k + 1) 17 [.ptr (some ⟨d, id, 2, 0⟩)] M = some (u64 (4294967296#64 - n), [], M) := by
  simp only [sc] at hg
  rw [call_fn (by rfl) (by simp)]
  simp (disch := omega) [if_pos, get_low, hd, hg]

theorem next_no (k : Nat) (M : Mem) (d id : Nat) (e n : BitVec 64) (fl : Bool) (h : ¬ n ≤ 4294967295#64) (hd : d < M.length) (hg : ∀ o, get M ⟨d, id, 2, o⟩ = some (sc e n fl)) : callFn SP (k + 3) 16 [.ptr (some ⟨d, id, 2, 0⟩)] M = some (.tuple [.str [], .int .i64 25], [], M) := by
  have h3 : 4294967295#64 < n := by bv_omega
  simp only [sc] at hg
  rw [call_fn (by rfl) (by simp)]
  simp (disch := omega) [if_pos, get_low, hd, hg, h3]

theorem next_ok (k : Nat) (M : Mem) (d id : Nat) (e n : BitVec 64) (fl : Bool) (h : n ≤ 4294967295#64) (hd : d < M.length) (hg : ∀ o, get M ⟨d, id, 2, o⟩ = some (sc e n fl)) :
    callFn SP (k + 3) 16 [.ptr (some ⟨d, id, 2, 0⟩)] M = some (.tuple [.str (one e n), .int .i64 0], [], put M d id (sc e (n + 1#64) fl)) := by
  have h3 : ¬ 4294967295#64 < n := by bv_omega
  have hn1 : d ≠ M.length := by omega
  simp only [sc] at hg
  rw [call_fn (by rfl) (by simp)]
  simp (disch := omega) [if_pos, get_low, put_low, hd, hg, h3, num]
  rw [W.frombig_ev (SP := SP) (n23 := 38) rfl]
  case hv => exact WS.top' (l := [n.setWidth 32]) rfl (by simp) rfl rfl
  case hN => simp
  simp (disch := omega) [if_pos, get_low, put_low, hd, hg, h3, one, sc, be8_len, W.tx_len]

theorem one_ev (k : Nat) (M : Mem) (e n : BitVec 64) : callFn SP (k + 2) 39 [u64 e, u64 n] M = some (.str (one e n), [], M) := by
  rw [call_fn (by rfl) (by simp)]
  simp (disch := omega) [if_pos, rfnum]
  rw [W.reftext_ev (SP := SP) (n22 := 42) rfl]
  case hv => exact WS.top' (l := [n.setWidth 32]) rfl (by simp) rfl rfl
  case hN => simp
  simp (disch := omega) [if_pos, one, be8_len, W.tx_len]

theorem refnext_no (k : Nat) (M : Mem) (d id : Nat) (e n : BitVec 64) (fl : Bool) (h : ¬ n ≤ 4294967295#64) (hd : d < M.length) (hg : ∀ o, get M ⟨d, id, 2, o⟩ = some (sc e n fl)) : callFn SP (k + 3) 18 [.ptr (some ⟨d, id, 2, 0⟩)] M = some (.tuple [.str [], .int .i64 25], [], M) := by
  have h3 : 4294967295#64 < n := by bv_omega
  simp only [sc] at hg
  rw [call_fn (by rfl) (by simp)]
  simp (disch := omega) [if_pos, get_low, hd, hg, h3]

theorem refnext_ok (k : Nat) (M : Mem) (d id : Nat) (e n : BitVec 64) (fl : Bool) (h : n ≤ 4294967295#64) (hd : d < M.length) (hg : ∀ o, get M ⟨d, id, 2, o⟩ = some (sc e n fl)) :
    callFn SP (k + 3) 18 [.ptr (some ⟨d, id, 2, 0⟩)] M = some (.tuple [.str (one e n), .int .i64 0], [], put M d id (sc e (n + 1#64) fl)) := by
  have h3 : ¬ 4294967295#64 < n := by bv_omega
  have hn1 : d ≠ M.length := by omega
  simp only [sc] at hg
  rw [call_fn (by rfl) (by simp)]
  simp (disch := omega) [if_pos, get_low, put_low, hd, hg, h3, one_ev, sc]

/-! ### a source that lies in the uppermost scope -/
theorem next_top_ok (k : Nat) (M : Mem) (id : Nat) (e n : BitVec 64) (fl : Bool) (l : List (Nat × Con)) (h : n ≤ 4294967295#64) :
    callFn SP (k + 3) 16 [.ptr (some ⟨M.length, id, 2, 0⟩)] (mk ((id, .cells [u64 e, u64 n] true fl) :: l) :: M) = some (.tuple [.str (one e n), .int .i64 0], [], mk ((id, .cells [u64 e, u64 (n + 1#64)] true fl) :: l) :: M) := by
  have h := next_ok k _ M.length id e n fl h (by simp) (top_get M id 2 (sc e n fl) l rfl)
  rwa [top_put] at h
theorem next_top_no (k : Nat) (M : Mem) (id : Nat) (e n : BitVec 64) (fl : Bool) (l : List (Nat × Con)) (h : ¬ n ≤ 4294967295#64) :
    callFn SP (k + 3) 16 [.ptr (some ⟨M.length, id, 2, 0⟩)] (mk ((id, .cells [u64 e, u64 n] true fl) :: l) :: M) = some (.tuple [.str [], .int .i64 25], [], mk ((id, .cells [u64 e, u64 n] true fl) :: l) :: M) :=
  next_no k _ M.length id e n fl h (by simp) (top_get M id 2 (sc e n fl) l rfl)
theorem refnext_snd_ok (k : Nat) (M : Mem) (i0 id : Nat) (c0 : Con) (e n : BitVec 64) (fl : Bool) (l : List (Nat × Con)) (hi : id ≠ i0) (h : n ≤ 4294967295#64) :
    callFn SP (k + 3) 18 [.ptr (some ⟨M.length, id, 2, 0⟩)] (mk ((i0, c0) :: (id, .cells [u64 e, u64 n] true fl) :: l) :: M) = some (.tuple [.str (one e n), .int .i64 0], [], mk ((i0, c0) :: (id, .cells [u64 e, u64 (n + 1#64)] true fl) :: l) :: M) := by
  have h := refnext_ok k _ M.length id e n fl h (by simp) (snd_get M i0 id 2 c0 (sc e n fl) l hi rfl)
  rwa [snd_put _ _ _ _ _ _ _ hi] at h
theorem refnext_snd_no (k : Nat) (M : Mem) (i0 id : Nat) (c0 : Con) (e n : BitVec 64) (fl : Bool) (l : List (Nat × Con)) (hi : id ≠ i0) (h : ¬ n ≤ 4294967295#64) :
    callFn SP (k + 3) 18 [.ptr (some ⟨M.length, id, 2, 0⟩)] (mk ((i0, c0) :: (id, .cells [u64 e, u64 n] true fl) :: l) :: M) = some (.tuple [.str [], .int .i64 25], [], mk ((i0, c0) :: (id, .cells [u64 e, u64 n] true fl) :: l) :: M) :=
  refnext_no k _ M.length id e n fl h (by simp) (snd_get M i0 id 2 c0 (sc e n fl) l hi rfl)
theorem left_top' (k : Nat) (M : Mem) (d id : Nat) (e n : BitVec 64) (rw_ fl : Bool) (l : List (Nat × Con)) (hdm : d = M.length) :
    callFn SP (k + 1) 17 [.ptr (some ⟨d, id, 2, 0⟩)] (mk ((id, .cells [u64 e, u64 n] rw_ fl) :: l) :: M) = some (u64 (4294967296#64 - n), [], mk ((id, .cells [u64 e, u64 n] rw_ fl) :: l) :: M) := by
  subst hdm
  have hg := top_get M id 2 (.cells [u64 e, u64 n] rw_ fl) l rfl
  have hd : M.length < (mk ((id, .cells [u64 e, u64 n] rw_ fl) :: l) :: M).length := by simp
  generalize mk ((id, .cells [u64 e, u64 n] rw_ fl) :: l) :: M = M1 at *
  rw [call_fn (by rfl) (by simp)]
  simp (disch := omega) [if_pos, get_low, hg, hd]

/-- The fixed words. -/
theorem wakes16 (k : Nat) (M : Mem) : callFn SP (k + 6) 14 [] M = some (.bool true, [], M) := by
  have h1 : mayE 1#64 := by unfold mayE; decide
  have hs : one 1#64 0#64 = [0, 0, 0, 0, 0, 0, 0, 1, 0, 0, 0, 0] := by decide +kernel
  have hn := fun k M => new_ok k M 1#64 0#64 ⟨h1, by decide⟩
  have hx := fun k M id fl l => next_top_ok k M id 1#64 0#64 fl l (by decide)
  simp only [sc] at hn
  rw [hs] at hx
  rw [call_fn (by rfl) (by simp)]
  simp (disch := first | omega | (simp; done) | (simp; omega)) [hn, hx, left_top']

end Go.Proofs.Ytkgbceeonmdlgaa
