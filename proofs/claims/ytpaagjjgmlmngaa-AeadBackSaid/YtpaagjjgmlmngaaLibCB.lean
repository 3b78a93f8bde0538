/-
  LIB, chacha: texts combined; the document's block and text.
-/
import Derived.Test.YtpaagjjgmlmngaaLibC
set_option maxRecDepth 100000
set_option maxHeartbeats 4000000
set_option linter.unusedSimpArgs false
set_option linter.unusedVariables false
namespace Go.Det.C
open Go.Det

section
variable {SP : SProg} {n10 n14 n16 n18 n19 n21 n22 n27 n28 n29 n31 n32 : Nat} (h10 : SP.fn n10 = some (s10 n19)) (h19 : SP.fn n19 = some W.s17) (h28 : SP.fn n28 = some (s28 n10))
    (h22 : SP.fn n22 = some (s22 n27 n28 n29)) (h27 : SP.fn n27 = some (W.s12 n31 n32)) (h31 : SP.fn n31 = some W.s25) (h32 : SP.fn n32 = some W.s26) (h29 : SP.fn n29 = some W.s21) (h18 : SP.fn n18 = some W.s10)

include h10 h19 h28 h22 h27 h31 h32 h29 h18
theorem l16 (k : Nat) (M : Mem) (key nonce : List UInt8) (hk : key.length = 32) (hn : nonce.length = 12) (j : Nat) : ∀ (n : Nat) (c : BitVec 32) (s out : List UInt8), s.length ≤ 64 * j → j < n → out.length + s.length ≤ 65536 →
    fgt a16_0 (rnd0 (some (e16_0 (.str key) (.str nonce) (u32 c) (.str s) (.slice (some ⟨M.length, 20008, out.length, 0⟩) out.length 1), mk [(20008, .cells (out.map byteAV) true true)] :: M)) k16_0 (callFn SP (k + 4)) (s16_b0 n18 n22) n) =
      some (.exit 1, x16_0 (.slice (some ⟨M.length, 20008, (out ++ cr key nonce c j s).length, 0⟩) (out ++ cr key nonce c j s).length 1), mk [(20008, .cells ((out ++ cr key nonce c j s).map byteAV) true true)] :: M) := by
  have hst := fun k M c => stream_ev h10 h19 h28 h22 h27 h31 h32 h29 k M key nonce c hk hn
  have hsl := fun c => stream_len key nonce c
  have hxor := fun k M a b h => W.xor_ev h18 k M a b h
  induction j with
  | zero =>
    intro n c s out h hn ho
    have : s = [] := List.eq_nil_of_length_eq_zero (by omega)
    subst this
    rw [rnd0_some]
    conv => lhs; arg 2; arg 1; rw [s16_b0]
    simp [cr]
  | succ j ih0 =>
    intro n c s out h hn ho
    obtain ⟨n, rfl⟩ : ∃ m, n = m + 1 := ⟨n - 1, by omega⟩
    rw [rnd0_some]
    conv => lhs; arg 2; arg 1; rw [s16_b0]
    by_cases h0 : s = []
    · subst h0
      have e : cr key nonce c (j + 1) [] = [] := by rw [cr_eq _ _ _ _ _ (by simp)]; rfl
      rw [e]
      simp
    · have hpos : 0 < s.length := List.length_pos_iff.2 h0
      have ih := ih0 n (c + 1#32) (s.drop 64) (out ++ W.xorT (s.take 64) (stream key nonce c)) (by rw [List.length_drop]; omega) (by omega) (by rw [List.length_append, W.xorT_len, List.length_take, List.length_drop, hsl]; omega)
      by_cases h1 : s.length < 64
      · rw [List.take_of_length_le (by omega), List.drop_of_length_le (by omega), List.append_assoc] at ih
        rw [cr, List.take_of_length_le (by omega), List.drop_of_length_le (by omega)]
        have hx : (W.xorT s (stream key nonce c)).length = s.length := by rw [W.xorT_len, hsl]; omega
        have ht : ((W.xorT s (stream key nonce c)).map byteAV).take s.length = (W.xorT s (stream key nonce c)).map byteAV := List.take_of_length_le (by simp [hx])
        simpa (disch := first | omega | (simp; done) | (simp; omega)) [hpos, h1, hst, hxor, hsl, hx, ht, if_pos] using ih
      · rw [List.append_assoc] at ih
        rw [cr]
        have hx : (W.xorT (s.take 64) (stream key nonce c)).length = 64 := by rw [W.xorT_len, List.length_take, hsl]; omega
        have ht : ((W.xorT (s.take 64) (stream key nonce c)).map byteAV).take 64 = (W.xorT (s.take 64) (stream key nonce c)).map byteAV := List.take_of_length_le (by simp [hx])
        simpa (disch := first | omega | (simp; done) | (simp; omega)) [hpos, h1, hst, hxor, hsl, hx, ht, if_pos] using ih

/-- What Crypt comes to: the bytes, the error. -/
def cryptR (key nonce : List UInt8) (c : BitVec 32) (s : List UInt8) : List UInt8 × Int :=
  if key.length = 32 ∧ nonce.length = 12 then (if s.length ≤ 65536 then (crypt key nonce c s, 0) else ([], 5)) else ([], 7)

theorem crypt_ev (h21 : SP.fn n21 = some s21) (h16 : SP.fn n16 = some (s16 n18 n21 n22)) (k : Nat) (M : Mem) (key nonce : List UInt8) (c : BitVec 32) (s : List UInt8) (hs : s.length < 2 ^ 48) :
    callFn SP (k + 5) n16 [.str key, .str nonce, u32 c, .str s] M = some (.tuple [.str (cryptR key nonce c s).1, .int .i64 (cryptR key nonce c s).2], [], M) := by
  rw [call_fn (h16.trans rfl) (by simp)]
  unfold cryptR
  by_cases h : key.length = 32 ∧ nonce.length = 12
  · by_cases hl : s.length ≤ 65536
    · have hlp := l16 h10 h19 h28 h22 h27 h31 h32 h29 h18 k M key nonce h.1 h.2 s.length (s.length + 1) c s [] (by omega) (by omega) (by simp; omega)
      rw [cr_eq _ _ _ _ _ (by omega), List.nil_append, List.length_nil] at hlp
      have hcl := crypt_len key nonce c s
      generalize crypt key nonce c s = X at *
      have hc : ¬ (65536 : Int) < s.length := by omega
      simp (disch := omega) [shape_ev h21, h, h.1, h.2, hc, if_pos]
      rw [ev_loop (s.length + 1) (by simp) hlp (by omega)]
      simp (disch := omega) [h, h.1, h.2, hl, hcl]
    · have hc : (65536 : Int) < s.length := by omega
      simp (disch := omega) [shape_ev h21, h, h.1, h.2, hc, hl]
  · simp (disch := omega) [shape_ev h21, h]
end

/-! ### the document's -/
theorem takeVL_u32 (d n : Nat) : ∀ l : List (BitVec 32), takeVL d n (l.map u32) = l.map u32
  | [] => rfl
  | x :: l => by rw [List.map_cons, takeVL, takeVL_u32 d n l]; rfl
theorem l15_0 {SP : SProg} {n12 n20 n24 : Nat} (h12 : SP.fn n12 = some (s12 n20)) (h20 : SP.fn n20 = some W.s18) (h24 : SP.fn n24 = some (s24 n12)) (k : Nat) (M : Mem) (F : L16) (hF : F.length = 16) (j : Nat) : ∀ (i n : Nat), i + j = 10 → j < n →
    fgt a15_0 (rnd0 (some (e15_0 (.ptr (some ⟨M.length, 20140, 16, 0⟩)) (.ptr (some ⟨M.length, 24004, 16, 0⟩)) (.int .i64 i), mk [(20140, .cells (F.map u32) true true), (24004, .cells ((rr F i).map u32) true true)] :: M)) k15_0 (callFn SP (k + 3)) (s15_b0 n24) n) =
      some (.exit 0, x15_0 (.ptr (some ⟨M.length, 20140, 16, 0⟩)) (.ptr (some ⟨M.length, 24004, 16, 0⟩)), mk [(20140, .cells (F.map u32) true true), (24004, .cells ((rr F 10).map u32) true true)] :: M) := by
  induction j with
  | zero =>
    intro i n h hn
    obtain rfl : i = 10 := by omega
    rw [rnd0_some]
    conv => lhs; arg 2; arg 1; rw [s15_b0]
    simp
  | succ j ih0 =>
    intro i n h hn
    obtain ⟨n, rfl⟩ : ∃ m, n = m + 1 := ⟨n - 1, by omega⟩
    have ih := ih0 (i + 1) n (by omega) (by omega)
    have hl : (rr F i).length = 16 := by rw [rr_len, hF]
    rw [rr, qb, qa] at ih
    generalize rr F i = L at *
    have hq := rq_int h12 h20 h24
    have hT : ∀ L : L16, L.length = 16 → (L.map u32).take 16 = L.map u32 := fun L h => List.take_of_length_le (by simp [h])
    have hD : ∀ L : L16, L.length = 16 → (L.map u32).drop 16 = [] := fun L h => List.drop_of_length_le (by simp [h])
    have hi : (i : Int) < 10 := by omega
    rw [rnd0_some]
    conv => lhs; arg 2; arg 1; rw [s15_b0]
    simpa (disch := first | omega | (simp [qs_len, hl]; done) | (simp; omega)) [hi, hq, hl, hT, hD, takeVL_u32, qs_len, if_pos, IntWalk.i64_in] using ih

/-- The first i sums. -/
def sm (a b : L16) (i : Nat) : L16 := tab (fun p => nth a p + nth b p) i
theorem sm_len (a b : L16) (i : Nat) : (sm a b i).length = i := by simp [sm]
theorem sm_zero (a b : L16) : sm a b 0 = [] := rfl
theorem sm_ne (a b : L16) (i : Nat) (h : 0 < i) : (sm a b i).map u32 ≠ [] := tab_ne _ _ _ h

theorem l15_1 (C : Det.Calls) (M : Mem) (F A : L16) (hF : F.length = 16) (hA : A.length = 16) (j : Nat) : ∀ (i n : Nat), i + j = 16 → j < n →
    fgt a15_1 (rnd0 (some (e15_1 (.ptr (some ⟨M.length, 20140, 16, 0⟩)) (.ptr (some ⟨M.length, 24004, 16, 0⟩)) (gv M.length 88036 ((sm A F i).map u32)) (.int .i64 i), mk ((20140, .cells (F.map u32) true true) :: (24004, .cells (A.map u32) true true) :: gm 88036 true ((sm A F i).map u32)) :: M)) k15_1 C s15_b1 n) =
      some (.exit 2, x15_1 (.slice (some ⟨M.length, 88036, 16, 0⟩) 16 1), mk [(88036, .cells ((sums A F).map u32) true true)] :: M) := by
  induction j with
  | zero =>
    intro i n h hn
    obtain rfl : i = 16 := by omega
    have hne := sm_ne A F 16 (by omega)
    have hl := sm_len A F 16
    rw [rnd0_some]
    conv => lhs; arg 2; arg 1; rw [s15_b1]
    rw [show sums A F = sm A F 16 from rfl]
    simp (disch := omega) [gv_ne _ _ _ hne, gm_ne _ _ _ hne, hl]
  | succ j ih0 =>
    intro i n h hn
    obtain ⟨n, rfl⟩ : ∃ m, n = m + 1 := ⟨n - 1, by omega⟩
    have ih := ih0 (i + 1) n (by omega) (by omega)
    rw [sm, tab_succ, ← sm, List.map_append, List.map_cons, List.map_nil, gv_snoc, gm_snoc] at ih
    have hi : (i : Int) < 16 := by omega
    have hi2 : i < 16 := by omega
    have hl := sm_len A F i
    have g1 : (F.map u32)[i]? = some (u32 (nth F i)) := by rw [List.getElem?_map, getElem?_nth F i (by omega)]; rfl
    have g2 : (A.map u32)[i]? = some (u32 (nth A i)) := by rw [List.getElem?_map, getElem?_nth A i (by omega)]; rfl
    rw [rnd0_some]
    conv => lhs; arg 2; arg 1; rw [s15_b1]
    by_cases h2 : i = 0
    · subst h2
      simpa (disch := omega) [-List.getElem?_map, sm_zero, gv_nil, gm_nil, g1, g2, hF, hA, if_pos, IntWalk.i64_in] using ih
    · have hne := sm_ne A F i (by omega)
      simpa (disch := omega) [-List.getElem?_map, gv_ne _ _ _ hne, gm_ne _ _ _ hne, g1, g2, hF, hA, hi, hi2, hl, if_pos, IntWalk.i64_in] using ih

theorem refblock_ev {SP : SProg} {n12 n15 n20 n23 n24 n25 : Nat} (h12 : SP.fn n12 = some (s12 n20)) (h20 : SP.fn n20 = some W.s18) (h24 : SP.fn n24 = some (s24 n12)) (h23 : SP.fn n23 = some W.s13) (h25 : SP.fn n25 = some W.s22)
    (h15 : SP.fn n15 = some (s15 n23 n24 n25)) (k : Nat) (M : Mem) (key nonce : List UInt8) (c : BitVec 32) :
    callFn SP (k + 4) n15 [.str key, .str nonce, u32 c] M = some (.tuple [.str (blockR key nonce c).1, .int .i64 (blockR key nonce c).2], [], M) := by
  rw [call_fn (h15.trans rfl) (by simp)]
  unfold blockR
  by_cases h : key.length = 32 ∧ nonce.length = 12
  · have b1 := fun k M => W.refwords_ev h23 k M false key 8 (by omega) (by omega) (by omega)
    have b2 := fun k M => W.refwords_ev h23 k M false nonce 3 (by omega) (by omega) (by omega)
    have hf : first key nonce c = [0x61707865#32, 0x3320646e#32, 0x79622d32#32, 0x6b206574#32] ++ tab (W.wat false key) 8 ++ [c] ++ tab (W.wat false nonce) 3 := rfl
    have e1 : ∀ f : Nat → BitVec 32, tab f 8 = [f 0, f 1, f 2, f 3, f 4, f 5, f 6, f 7] := fun f => rfl
    have e2 : ∀ f : Nat → BitVec 32, tab f 3 = [f 0, f 1, f 2] := fun f => rfl
    rw [e1] at b1
    rw [e2] at b2
    rw [e1, e2] at hf
    have hk : (key.length : Int) = 32 := by omega
    have hn : (nonce.length : Int) = 12 := by omega
    have hfold : [u32 0x61707865#32, u32 0x3320646e#32, u32 0x79622d32#32, u32 0x6b206574#32, u32 (W.wat false key 0), u32 (W.wat false key 1), u32 (W.wat false key 2), u32 (W.wat false key 3), u32 (W.wat false key 4), u32 (W.wat false key 5), u32 (W.wat false key 6), u32 (W.wat false key 7), u32 c, u32 (W.wat false nonce 0), u32 (W.wat false nonce 1), u32 (W.wat false nonce 2)] = (first key nonce c).map u32 := by rw [hf]; rfl
    have hF := first_len key nonce c
    rw [stream]
    generalize first key nonce c = F at *
    have q0 := l15_0 h12 h20 h24 k M F hF 10 0 11 rfl (by omega)
    rw [show rr F 0 = F from rfl] at q0
    have hR : (rr F 10).length = 16 := by rw [rr_len, hF]
    have q1 := l15_1 (callFn SP (k + 3)) M F (rr F 10) hF hR 16 0 17 rfl (by omega)
    rw [sm_zero] at q1
    simp only [List.map_nil, gv_nil, gm_nil] at q1
    have ht : (F.map u32).take 16 = F.map u32 := List.take_of_length_le (by simp [hF])
    simp (disch := omega) [h, h.1, h.2, hk, hn, b1, b2, if_pos, hfold, ht, hF]
    rw [ev_loop 11 (by simp) q0 (by omega)]
    simp (disch := omega) []
    rw [ev_loop 17 (by simp) q1 (by omega)]
    have hs := sums_len (rr F 10) F
    generalize sums (rr F 10) F = Z at *
    simp (disch := omega) [hs]
    rw [W.reftext_ev h25]
    case hv => exact WS.top' (l := Z) rfl (by simp) (by omega) (by omega)
    case hN => omega
    simp (disch := omega) [W.tx_len, hs]
  · have hk : (key.length : Int) = 32 → ¬ (nonce.length : Int) = 12 := fun h1 h2 => h ⟨by omega, by omega⟩
    by_cases h1 : (key.length : Int) = 32
    · simp (disch := omega) [h, h1, hk h1]
    · simp (disch := omega) [h, h1]

section
variable {SP : SProg} {n12 n15 n20 n23 n24 n25 n26 n30 : Nat} (h12 : SP.fn n12 = some (s12 n20)) (h20 : SP.fn n20 = some W.s18) (h24 : SP.fn n24 = some (s24 n12)) (h23 : SP.fn n23 = some W.s13) (h25 : SP.fn n25 = some W.s22)
    (h15 : SP.fn n15 = some (s15 n23 n24 n25))
include h12 h20 h24 h23 h25 h15

theorem l17 (k : Nat) (M : Mem) (key nonce : List UInt8) (hk : key.length = 32) (hn : nonce.length = 12) (c : BitVec 32) (s : List UInt8) (hs : s.length ≤ 65536) (N : Nat) (hN : N = (s.length + 63) / 64) (j : Nat) : ∀ (i n : Nat), i + j = N → j < n →
    fgt a17_0 (rnd0 (some (e17_0 (.str key) (.str nonce) (u32 (c + BitVec.ofNat 32 i)) (.str s) (.str (al key nonce c i)), mk [] :: M)) k17_0 (callFn SP (k + 4)) (s17_b0 n15) n) =
      some (.exit 0, x17_0 (.str s) (.str (al key nonce c N)), mk [] :: M) := by
  have hb : ∀ k M c, callFn SP (k + 4) n15 [.str key, .str nonce, u32 c] M = some (.tuple [.str (stream key nonce c), .int .i64 0], [], M) := fun k M c => by
    have h := refblock_ev h12 h20 h24 h23 h25 h15 k M key nonce c
    rwa [blockR, if_pos ⟨hk, hn⟩] at h
  induction j with
  | zero =>
    intro i n h hn
    obtain rfl : i = N := by omega
    have hl := al_len key nonce c i
    have h1 : ¬ 64 * (i : Int) < s.length := by omega
    have h2 : ¬ 64 * i < s.length := by omega
    rw [rnd0_some]
    conv => lhs; arg 2; arg 1; rw [s17_b0]
    generalize al key nonce c i = A at *
    simp [hl, h1, h2]
  | succ j ih0 =>
    intro i n h hn
    obtain ⟨n, rfl⟩ : ∃ m, n = m + 1 := ⟨n - 1, by omega⟩
    have ih := ih0 (i + 1) n (by omega) (by omega)
    have hl := al_len key nonce c i
    have hsl := stream_len key nonce (c + BitVec.ofNat 32 i)
    have h1 : 64 * (i : Int) < s.length := by omega
    have h2 : 64 * i < s.length := by omega
    rw [al, show BitVec.ofNat 32 (i + 1) = BitVec.ofNat 32 i + 1#32 by rw [BitVec.ofNat_add], ← BitVec.add_assoc] at ih
    rw [rnd0_some]
    conv => lhs; arg 2; arg 1; rw [s17_b0]
    simpa (disch := omega) [hl, h1, h2, hb, hsl, if_pos] using ih

theorem refcrypt_ev {n17 : Nat} (h26 : SP.fn n26 = some (W.s11 n30)) (h30 : SP.fn n30 = some W.s24) (h17 : SP.fn n17 = some (s17 n15 n26)) (k : Nat) (M : Mem) (key nonce : List UInt8) (c : BitVec 32) (s : List UInt8) (hs : s.length < 2 ^ 48) :
    callFn SP (k + 5) n17 [.str key, .str nonce, u32 c, .str s] M = some (.tuple [.str (cryptR key nonce c s).1, .int .i64 (cryptR key nonce c s).2], [], M) := by
  rw [call_fn (h17.trans rfl) (by simp)]
  unfold cryptR
  by_cases h : key.length = 32 ∧ nonce.length = 12
  · have hk : (key.length : Int) = 32 := by omega
    have hn : (nonce.length : Int) = 12 := by omega
    by_cases hl : s.length ≤ 65536
    · have hc : ¬ (65536 : Int) < s.length := by omega
      have hlp := l17 h12 h20 h24 h23 h25 h15 k M key nonce h.1 h.2 c s hl ((s.length + 63) / 64) rfl ((s.length + 63) / 64) 0 ((s.length + 63) / 64 + 1) (by omega) (by omega)
      rw [show al key nonce c 0 = [] from rfl, show c + BitVec.ofNat 32 0 = c by simp] at hlp
      have hx := xor_al key nonce c ((s.length + 63) / 64) s (by omega)
      have hA := al_len key nonce c ((s.length + 63) / 64)
      generalize al key nonce c ((s.length + 63) / 64) = A at *
      have hX := fun k M => W.refxor_ev h26 h30 k M s A (by omega)
      rw [hx] at hX
      simp (disch := omega) [h, h.1, h.2, hk, hn, hc, hl, if_pos]
      rw [ev_loop ((s.length + 63) / 64 + 1) (by simp) hlp (by omega)]
      simp (disch := omega) [hX]
    · have hc : (65536 : Int) < s.length := by omega
      simp (disch := omega) [h, h.1, h.2, hk, hn, hc, hl, if_pos]
  · have hk : (key.length : Int) = 32 → ¬ (nonce.length : Int) = 12 := fun h1 h2 => h ⟨by omega, by omega⟩
    by_cases h1 : (key.length : Int) = 32
    · simp (disch := omega) [h, h1, hk h1]
    · simp (disch := omega) [h, h1]
end

end Go.Det.C
