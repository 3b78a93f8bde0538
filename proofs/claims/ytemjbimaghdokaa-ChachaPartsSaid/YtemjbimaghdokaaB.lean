/-
  CHACHA, part B: the laws.
-/
import Derived.Test.YtemjbimaghdokaaA
set_option maxRecDepth 100000
set_option maxHeartbeats 4000000
set_option linter.unusedSimpArgs false
set_option linter.unusedVariables false
namespace Go.Proofs.Ytemjbimaghdokaa
open Go.Det Go.Det.C

theorem keysC (a b : List UInt8) (n : Int) (ha : a.length = 32) (hb : b.length = 12) : ∃ C C0 : List AV, a.map byteAV ++ (b.map byteAV ++ [.int .i64 n]) = C ∧ C.length = 45 ∧ C.take 45 = C ∧ AV.unders 0 C = true ∧
    C.set 44 (.int .i64 0) = C0 ∧ C0.length = 45 ∧ C0.take 45 = C0 ∧ AV.unders 0 C0 = true ∧ (∀ k M, callFn SP (k + 1) 13 [.agg C] M = some (.tuple [.str (keyOf a n), .str b], [], M)) ∧
    (∀ k M, callFn SP (k + 1) 13 [.agg C0] M = some (.tuple [.str a, .str b], [], M)) := by
  have e : (a.map byteAV ++ (b.map byteAV ++ [AV.int .i64 n])).set 44 (AV.int .i64 0) = a.map byteAV ++ (b.map byteAV ++ [AV.int .i64 0]) := by
    rw [List.set_append_right _ _ (by simp [ha]), List.set_append_right _ _ (by simp [ha, hb])]
    simp [ha, hb]
  exact ⟨_, _, rfl, by simp [ha, hb], List.take_of_length_le (by simp [ha, hb]), by simp [AV.unders], e, by simp [ha, hb], List.take_of_length_le (by simp [ha, hb]), by simp [AV.unders],
    fun k M => texts_ev k M a b n ha hb, fun k M => texts_ev k M a b 0 ha hb⟩

theorem law4 (k : Nat) (M : Mem) (a b : List UInt8) (n : Int) (ha : a.length = 32) (hb : b.length = 12) (c : BitVec 32) (nonce : List UInt8) :
    callFn SP (k + 7) 4 [.agg (a.map byteAV ++ (b.map byteAV ++ [.int .i64 n])), u32 c, .str nonce] M = some (.bool true, [], M) := by
  obtain ⟨C, C0, hC, h1, h2, h3, h4, h5, h6, h7, ht, ht0⟩ := keysC a b n ha hb
  rw [hC, call_fn (by rfl) (by simp)]
  simp (disch := omega) [h1, h2, h3, h4, h5, h6, h7, ht, ht0, wakes, blkC, rblkC]

theorem ev_ChachaBlocks (s : Scope) (args : List AV) (h : ArgsShp s [.st [.arr 32 (.int .u8), .arr 12 (.int .u8), .int .i64], .int .u32, .str] args) : ∃ k M', callFn SP k 4 args [s, mk []] = some (.bool true, [], M') := by
  obtain ⟨_, _, rfl, h1, _, _, rfl, h2, _, _, rfl, h3, rfl⟩ := h
  obtain ⟨a, b, n, ha, hb, rfl⟩ := keys_open h1
  obtain ⟨c, rfl⟩ := ArgShp_u32 h2
  obtain ⟨t, rfl, _⟩ := ArgShp_str h3
  exact ⟨7, _, law4 0 [s, mk []] a b n ha hb c t⟩

theorem law5 (k : Nat) (M : Mem) (a b : List UInt8) (n : Int) (ha : a.length = 32) (hb : b.length = 12) (c : BitVec 32) (s : List UInt8) :
    callFn SP (k + 7) 5 [.agg (a.map byteAV ++ (b.map byteAV ++ [.int .i64 n])), u32 c, .str s] M = some (.bool true, [], M) := by
  obtain ⟨C, C0, hC, h1, h2, h3, h4, h5, h6, h7, ht, ht0⟩ := keysC a b n ha hb
  obtain ⟨N, e1, e2, e3, e4⟩ : ∃ N : Nat, min (s.length : Int) 300 = N ∧ N ≤ s.length ∧ min s.length 300 = N ∧ N ≤ 300 := ⟨min 300 s.length, by omega, by omega, by omega, by omega⟩
  have e5 : (s.take N).length < 2 ^ 48 := by rw [List.length_take]; omega
  have hc := fun k M => cryC k M (keyOf a n) b c (s.take N) e5
  have hr := fun k M => rcryC k M (keyOf a n) b c (s.take N) e5
  rw [hC, call_fn (by rfl) (by simp)]
  simp (disch := omega) [h1, h2, h3, h4, h5, h6, h7, ht, ht0, e1, e2, e3, wakes, hc, hr]

theorem ev_ChachaCrypts (s : Scope) (args : List AV) (h : ArgsShp s [.st [.arr 32 (.int .u8), .arr 12 (.int .u8), .int .i64], .int .u32, .str] args) : ∃ k M', callFn SP k 5 args [s, mk []] = some (.bool true, [], M') := by
  obtain ⟨_, _, rfl, h1, _, _, rfl, h2, _, _, rfl, h3, rfl⟩ := h
  obtain ⟨a, b, n, ha, hb, rfl⟩ := keys_open h1
  obtain ⟨c, rfl⟩ := ArgShp_u32 h2
  obtain ⟨t, rfl, _⟩ := ArgShp_str h3
  exact ⟨7, _, law5 0 [s, mk []] a b n ha hb c t⟩

/-! ### combined once more -/
theorem crypt_crypt (key nonce : List UInt8) (c : BitVec 32) (s : List UInt8) : crypt key nonce c (crypt key nonce c s) = s := by
  refine nth_ext (by simp [crypt_len]) fun p hp => ?_
  simp [crypt_len] at hp
  rw [crypt, nth_tab _ _ _ (by rw [crypt_len]; exact hp), crypt, nth_tab _ _ _ hp, UInt8.xor_assoc, UInt8.xor_self, UInt8.xor_zero]
theorem cryptR_ok (key nonce : List UInt8) (c : BitVec 32) (s : List UInt8) (hk : key.length = 32) (hn : nonce.length = 12) (hs : s.length ≤ 65536) : cryptR key nonce c s = (crypt key nonce c s, 0) := by
  rw [cryptR, if_pos ⟨hk, hn⟩, if_pos hs]
theorem cryptR_long (key nonce : List UInt8) (c : BitVec 32) (s : List UInt8) (hk : key.length = 32) (hn : nonce.length = 12) (hs : ¬ s.length ≤ 65536) : cryptR key nonce c s = ([], 5) := by
  rw [cryptR, if_pos ⟨hk, hn⟩, if_neg hs]
theorem cry_ok (k : Nat) (M : Mem) (key nonce : List UInt8) (c : BitVec 32) (s : List UInt8) (hk : key.length = 32) (hn : nonce.length = 12) (hs : s.length ≤ 65536) :
    callFn SP (k + 5) 16 [.str key, .str nonce, u32 c, .str s] M = some (.tuple [.str (crypt key nonce c s), .int .i64 0], [], M) := by
  have h := cryC k M key nonce c s (by omega)
  rwa [cryptR_ok key nonce c s hk hn hs] at h

theorem law6 (k : Nat) (M : Mem) (a b : List UInt8) (n : Int) (ha : a.length = 32) (hb : b.length = 12) (c : BitVec 32) (s : List UInt8) :
    callFn SP (k + 7) 6 [.agg (a.map byteAV ++ (b.map byteAV ++ [.int .i64 n])), u32 c, .str s] M = some (.bool true, [], M) := by
  obtain ⟨C, C0, hC, h1, h2, h3, h4, h5, h6, h7, ht, ht0⟩ := keysC a b n ha hb
  obtain ⟨N, e1, e2, e3, e4⟩ : ∃ N : Nat, min (s.length : Int) 2000 = N ∧ N ≤ s.length ∧ min s.length 2000 = N ∧ N ≤ 2000 := ⟨min 2000 s.length, by omega, by omega, by omega, by omega⟩
  obtain ⟨S, hS⟩ : ∃ S, s.take N = S := ⟨_, rfl⟩
  have e5 : S.length = N := by rw [← hS, List.length_take]; omega
  have hl := crypt_len a b c S
  have hc := fun k M => cry_ok k M a b c S ha hb (by omega)
  have hc2 := fun k M => cry_ok k M a b c (crypt a b c S) ha hb (by omega)
  rw [crypt_crypt] at hc2
  generalize crypt a b c S = T at *
  rw [hC, call_fn (by rfl) (by simp)]
  simp (disch := omega) [h1, h2, h3, h4, h5, h6, h7, ht, ht0, e1, e2, e3, hS, wakes, hc, hc2, hl]

theorem ev_ChachaBack (s : Scope) (args : List AV) (h : ArgsShp s [.st [.arr 32 (.int .u8), .arr 12 (.int .u8), .int .i64], .int .u32, .str] args) : ∃ k M', callFn SP k 6 args [s, mk []] = some (.bool true, [], M') := by
  obtain ⟨_, _, rfl, h1, _, _, rfl, h2, _, _, rfl, h3, rfl⟩ := h
  obtain ⟨a, b, n, ha, hb, rfl⟩ := keys_open h1
  obtain ⟨c, rfl⟩ := ArgShp_u32 h2
  obtain ⟨t, rfl, _⟩ := ArgShp_str h3
  exact ⟨7, _, law6 0 [s, mk []] a b n ha hb c t⟩

/-! ### what two texts differ in -/
theorem xor_crypt (key nonce : List UInt8) (c : BitVec 32) (s t : List UInt8) : W.xorT (crypt key nonce c s) (crypt key nonce c t) = W.xorT s t := by
  rw [W.xorT, W.xorT, crypt_len, crypt_len]
  refine tab_congr _ _ _ fun p hp => ?_
  rw [crypt, nth_tab _ _ _ (by omega), crypt, nth_tab _ _ _ (by omega)]
  generalize nth s p = x
  generalize nth t p = y
  generalize ksb key nonce c p = z
  rw [UInt8.xor_assoc, UInt8.xor_comm y z, ← UInt8.xor_assoc z z y, UInt8.xor_self, UInt8.zero_xor]

theorem law8 (k : Nat) (M : Mem) (a b : List UInt8) (n : Int) (ha : a.length = 32) (hb : b.length = 12) (s t : List UInt8) :
    callFn SP (k + 7) 8 [.agg (a.map byteAV ++ (b.map byteAV ++ [.int .i64 n])), .str s, .str t] M = some (.bool true, [], M) := by
  obtain ⟨C, C0, hC, h1, h2, h3, h4, h5, h6, h7, ht, ht0⟩ := keysC a b n ha hb
  obtain ⟨N, e1, e2, e3, e4, e6⟩ : ∃ N : Nat, min (min (s.length : Int) t.length) 600 = N ∧ N ≤ s.length ∧ N ≤ t.length ∧ N ≤ 600 ∧ min (min s.length t.length) 600 = N := ⟨min (min s.length t.length) 600, by omega, by omega, by omega, by omega, rfl⟩
  have es : (s.take N).length = N := by rw [List.length_take]; omega
  have et : (t.take N).length = N := by rw [List.length_take]; omega
  obtain ⟨S, hS⟩ : ∃ S, s.take N = S := ⟨_, rfl⟩
  obtain ⟨T, hT⟩ : ∃ T, t.take N = T := ⟨_, rfl⟩
  rw [hS] at es
  rw [hT] at et
  have hcs := fun k M => cry_ok k M a b 1#32 S ha hb (by omega)
  have hct := fun k M => cry_ok k M a b 1#32 T ha hb (by omega)
  have hls := crypt_len a b 1#32 S
  have hlt := crypt_len a b 1#32 T
  have hx := xor_crypt a b 1#32 S T
  have x1 := fun k M => xorC k M S T (by omega)
  have x2 := fun k M => xorC k M (crypt a b 1#32 S) (crypt a b 1#32 T) (by omega)
  rw [hx] at x2
  rw [hC, call_fn (by rfl) (by simp)]
  simp (disch := omega) [h1, h2, h3, h4, h5, h6, h7, ht, ht0, e1, e2, e3, e6, hS, hT, wakes, hcs, hct, x1, x2]

theorem ev_ChachaStream (s : Scope) (args : List AV) (h : ArgsShp s [.st [.arr 32 (.int .u8), .arr 12 (.int .u8), .int .i64], .str, .str] args) : ∃ k M', callFn SP k 8 args [s, mk []] = some (.bool true, [], M') := by
  obtain ⟨_, _, rfl, h1, _, _, rfl, h2, _, _, rfl, h3, rfl⟩ := h
  obtain ⟨a, b, n, ha, hb, rfl⟩ := keys_open h1
  obtain ⟨x, rfl, _⟩ := ArgShp_str h2
  obtain ⟨t, rfl, _⟩ := ArgShp_str h3
  exact ⟨7, _, law8 0 [s, mk []] a b n ha hb x t⟩

/-! ### what is too long -/
theorem law9 (k : Nat) (M : Mem) (a b : List UInt8) (n : Int) (ha : a.length = 32) (hb : b.length = 12) (m : UInt8) :
    callFn SP (k + 7) 9 [.agg (a.map byteAV ++ (b.map byteAV ++ [.int .i64 n])), byteAV m] M = some (.bool true, [], M) := by
  obtain ⟨C, C0, hC, h1, h2, h3, h4, h5, h6, h7, ht, ht0⟩ := keysC a b n ha hb
  have hm := m.toNat_lt
  obtain ⟨L, hL⟩ : ∃ L, 65536 + m.toNat = L := ⟨_, rfl⟩
  have hw : IntKind.wrap .i64 (65536 + (m.toNat : Int)) = (L : Int) := by
    rw [IntWalk.i64_in _ ⟨by omega, by omega⟩]
    omega
  have hz := bytesOf_rep L
  have hl : (List.replicate L (0 : UInt8)).length = L := by simp
  have hc := fun k M => cryC k M a b 7#32 (List.replicate L 0) (by rw [hl]; omega)
  rw [hC, call_fn (by rfl) (by simp)]
  by_cases h0 : m = 0
  · have hL0 : L = 65536 := by rw [← hL, h0]; rfl
    rw [cryptR_ok _ _ _ _ ha hb (by rw [hl]; omega)] at hc
    have hcl := crypt_len a b 7#32 (List.replicate L 0)
    rw [hl] at hcl
    generalize List.replicate L (0 : UInt8) = Z at *
    simp (disch := omega) [h1, h2, h3, h4, h5, h6, h7, ht, ht0, wakes, if_pos, hw, hz, hc, show (m = 0) = True from eq_true h0, hcl, show (L = 65536) = True from eq_true hL0, show ((L : Int) = 65536) = True from eq_true (by omega)]
  · have hL0 : ¬ L ≤ 65536 := fun h => h0 (UInt8.toNat_inj.1 (show m.toNat = 0 by omega))
    rw [cryptR_long _ _ _ _ ha hb (by rw [hl]; exact hL0)] at hc
    generalize List.replicate L (0 : UInt8) = Z at *
    simp (disch := omega) [h1, h2, h3, h4, h5, h6, h7, ht, ht0, wakes, if_pos, hw, hz, hc, h0]

theorem ev_ChachaLong (s : Scope) (args : List AV) (h : ArgsShp s [.st [.arr 32 (.int .u8), .arr 12 (.int .u8), .int .i64], .int .u8] args) : ∃ k M', callFn SP k 9 args [s, mk []] = some (.bool true, [], M') := by
  obtain ⟨_, _, rfl, h1, _, _, rfl, h2, rfl⟩ := h
  obtain ⟨a, b, n, ha, hb, rfl⟩ := keys_open h1
  obtain ⟨c, rfl⟩ := ArgShp_u8 h2
  exact ⟨7, _, law9 0 [s, mk []] a b n ha hb c⟩

end Go.Proofs.Ytemjbimaghdokaa
