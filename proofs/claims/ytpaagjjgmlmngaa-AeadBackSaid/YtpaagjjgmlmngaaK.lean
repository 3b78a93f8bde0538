/-
  AEAD, part K: the document's tag; what is sealed and opened.
-/
import Derived.Test.YtpaagjjgmlmngaaJ
set_option maxRecDepth 100000
set_option maxHeartbeats 4000000
set_option linter.unusedSimpArgs false
set_option linter.unusedVariables false
namespace Go.Proofs.Ytpaagjjgmlmngaa
open Go.Det Go.Det.P Go.Det.PR

theorem padT_step (l : List UInt8) (h : l.length % 16 ≠ 0) : padT (l ++ [0]) = padT l := by
  unfold padT
  rw [List.length_append, List.length_singleton, pn_succ l.length h, List.append_assoc, List.replicate_succ]
  rfl
theorem padT_end (l : List UInt8) (h : l.length % 16 = 0) : padT l = l := by
  unfold padT
  rw [pn_zero _ h]
  simp

theorem l51 (C : Det.Calls) (M : Mem) (d id : Nat) (hd : d < M.length) (j : Nat) : ∀ (n : Nat) (l : List UInt8), pn l.length = j → j < n → l.length + j < 2 ^ 40 →
    fgt a51_0 (rnd0 (some (e51_0 (.slice (some ⟨d, id, l.length, 0⟩) l.length 1), mk [] :: put M d id (.cells (l.map byteAV) true true))) k51_0 C s51_b0 n) =
      some (.exit 0, x51_0 (.slice (some ⟨d, id, (padT l).length, 0⟩) (padT l).length 1), mk [] :: put M d id (.cells ((padT l).map byteAV) true true)) := by
  have hn1 : d ≠ M.length := by omega
  have hnp : ∀ X : Con, ¬ d = (put M d id X).length := fun X => by rw [put_length]; omega
  have hlp : ∀ X : Con, d < (put M d id X).length := fun X => by rw [put_length]; exact hd
  induction j with
  | zero =>
    intro n l hp hn hl
    have h16 : l.length % 16 = 0 := by unfold pn at hp; omega
    rw [padT_end l h16]
    obtain ⟨n, rfl⟩ : ∃ m, n = m + 1 := ⟨n - 1, by omega⟩
    have e1 : (l.length : Int) % 16 = 0 := by omega
    rw [rnd0_some]
    conv => lhs; arg 2; arg 1; rw [s51_b0]
    simp (disch := omega) [e1, hn1, hnp]
  | succ j ih0 =>
    intro n l hp hn hl
    have h16 : l.length % 16 ≠ 0 := by
      intro h
      rw [pn_zero _ h] at hp
      omega
    obtain ⟨n, rfl⟩ : ∃ m, n = m + 1 := ⟨n - 1, by omega⟩
    have hq := pn_succ l.length h16
    have e1 : ¬ (l.length : Int) % 16 = 0 := by omega
    have ih := ih0 n (l ++ [0]) (by rw [List.length_append, List.length_singleton]; omega) (by omega) (by rw [List.length_append, List.length_singleton]; omega)
    rw [padT_step l h16] at ih
    generalize padT l = P at *
    rw [rnd0_some]
    conv => lhs; arg 2; arg 1; rw [s51_b0]
    simpa (disch := first | omega | exact hlp _) [e1, hn1, hnp, get_low, put_low, get_put hd, put_put, if_pos] using ih

theorem fill_ev (k : Nat) (M : Mem) (d id z : Nat) (l : List UInt8) (hd : d < M.length) (hz : z = l.length) (hg : ∀ o, get M ⟨d, id, z, o⟩ = some (.cells (l.map byteAV) true true)) (hl : l.length < 2 ^ 39) (hput : put M d id (.cells (l.map byteAV) true true) = M) :
    callFn SP (k + 1) 51 [.slice (some ⟨d, id, z, 0⟩) z 1] M = some (.slice (some ⟨d, id, (padT l).length, 0⟩) (padT l).length 1, [], put M d id (.cells ((padT l).map byteAV) true true)) := by
  subst hz
  have hn1 : d ≠ M.length := by omega
  have hnp : ∀ X : Con, ¬ d = (put M d id X).length := fun X => by rw [put_length]; omega
  have hlp : ∀ X : Con, d < (put M d id X).length := fun X => by rw [put_length]; exact hd
  have hp := pn_lt l.length
  have q := l51 (callFn SP k) M d id hd (pn l.length) 17 l rfl (by omega) (by omega)
  rw [hput] at q
  generalize padT l = P at *
  rw [call_fn (by rfl) (by simp)]
  simp (disch := omega) []
  rw [ev_loop 17 (by simp [hn1]) q (by omega)]
  simp (disch := omega) [hn1, hd, hnp, put_length]

theorem l52 (C : Det.Calls) (M : Mem) (d id : Nat) (hd : d < M.length) (l : List UInt8) (hl : l.length < 2 ^ 39) (m : Nat) (hm : m < 2 ^ 62) (j : Nat) : ∀ (i n : Nat), i + j = 8 → j < n →
    fgt a52_0 (rnd0 (some (e52_0 (.slice (some ⟨d, id, (l ++ ob m i).length, 0⟩) (l ++ ob m i).length 1) (.int .i64 (m / 256 ^ i : Nat)) (.int .i64 i), mk [] :: put M d id (.cells ((l ++ ob m i).map byteAV) true true))) k52_0 C s52_b0 n) =
      some (.exit 0, x52_0 (.slice (some ⟨d, id, (l ++ ob m 8).length, 0⟩) (l ++ ob m 8).length 1), mk [] :: put M d id (.cells ((l ++ ob m 8).map byteAV) true true)) := by
  have hn1 : d ≠ M.length := by omega
  have hnp : ∀ X : Con, ¬ d = (put M d id X).length := fun X => by rw [put_length]; omega
  have hlp : ∀ X : Con, d < (put M d id X).length := fun X => by rw [put_length]; exact hd
  induction j with
  | zero =>
    intro i n h hn
    obtain rfl : i = 8 := by omega
    obtain ⟨n, rfl⟩ : ∃ m, n = m + 1 := ⟨n - 1, by omega⟩
    generalize l ++ ob m 8 = L at *
    rw [rnd0_some]
    conv => lhs; arg 2; arg 1; rw [s52_b0]
    simp (disch := omega) [hn1, hnp]
  | succ j ih0 =>
    intro i n h hn
    obtain ⟨n, rfl⟩ : ∃ m, n = m + 1 := ⟨n - 1, by omega⟩
    have hi : i < 8 := by omega
    have ih := ih0 (i + 1) n (by omega) (by omega)
    have hol := ob_len m i
    have e0 : ob m (i + 1) = ob m i ++ [UInt8.ofNat (m / 256 ^ i % 256)] := tab_succ _ _
    rw [e0, ← List.append_assoc, Nat.pow_succ, ← Nat.div_div_eq_div_mul] at ih
    have hle : m / 256 ^ i ≤ m := Nat.div_le_self _ _
    have hL : (l ++ ob m i).length = l.length + i := by rw [List.length_append, hol]
    generalize ob m 8 = O8 at *
    generalize l ++ O8 = L8 at *
    generalize l ++ ob m i = L at *
    generalize m / 256 ^ i = v at *
    have e1 : (v : Int) % 256 = ((v % 256 : Nat) : Int) := rfl
    have w : IntKind.wrap .i64 ((v : Int) / 256) = (v : Int) / 256 := IntWalk.i64_in _ (by omega)
    have e3 : low8 (BitVec.ofInt 8 ((v : Int) % 256)) = UInt8.ofNat (v % 256) := by
      rw [e1, bv_ofInt]
      apply UInt8.toNat_inj.1
      rw [low8_toNat, BitVec.toNat_ofNat, UInt8.toNat_ofNat']
      omega
    generalize UInt8.ofNat (v % 256) = B at *
    have hi2 : (i : Int) < 8 := by omega
    rw [rnd0_some]
    conv => lhs; arg 2; arg 1; rw [s52_b0]
    simpa (disch := first | omega | exact hlp _) [hi, hi2, hL, e3, w, hn1, hnp, get_low, put_low, get_put hd, put_put, if_pos, IntWalk.i64_in] using ih

theorem size_ev (k : Nat) (M : Mem) (d id z : Nat) (l : List UInt8) (m : Nat) (hm : m < 2 ^ 62) (hd : d < M.length) (hz : z = l.length) (hg : ∀ o, get M ⟨d, id, z, o⟩ = some (.cells (l.map byteAV) true true)) (hl : l.length < 2 ^ 39) (hput : put M d id (.cells (l.map byteAV) true true) = M) :
    callFn SP (k + 1) 52 [.slice (some ⟨d, id, z, 0⟩) z 1, .int .i64 m] M = some (.slice (some ⟨d, id, (l ++ le8 m).length, 0⟩) (l ++ le8 m).length 1, [], put M d id (.cells ((l ++ le8 m).map byteAV) true true)) := by
  subst hz
  have hn1 : d ≠ M.length := by omega
  have hnp : ∀ X : Con, ¬ d = (put M d id X).length := fun X => by rw [put_length]; omega
  have hlp : ∀ X : Con, d < (put M d id X).length := fun X => by rw [put_length]; exact hd
  have q := l52 (callFn SP k) M d id hd l hl m hm 8 0 9 rfl (by omega)
  rw [show ob m 0 = [] from rfl, List.append_nil, hput, Nat.pow_zero, Nat.div_one] at q
  unfold le8
  generalize l ++ ob m 8 = P at *
  rw [call_fn (by rfl) (by simp)]
  simp (disch := omega) []
  rw [ev_loop 9 (by simp [hn1]) q (by omega)]
  simp (disch := omega) [hn1, hd, hnp, put_length]
end Go.Proofs.Ytpaagjjgmlmngaa
