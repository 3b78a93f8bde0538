/-
  AEAD, part M: the laws.
-/
import Derived.Test.YtpaagjjgmlmngaaL
set_option maxRecDepth 100000
set_option maxHeartbeats 2000000
set_option linter.unusedSimpArgs false
set_option linter.unusedVariables false
namespace Go.Proofs.Ytpaagjjgmlmngaa
open Go.Det Go.Det.P Go.Det.PR

/-- The fixed words. -/
theorem wakes (k : Nat) (M : Mem) : callFn SP (k + 8) 24 [] M = some (.bool true, [], M) := by
  have hp : (tg (List.replicate 32 0) (List.replicate 12 0) [119] (C.crypt (List.replicate 32 0) (List.replicate 12 0) 1#32 [112, 108, 97, 105, 110]) == tg (List.replicate 32 0) (List.replicate 12 0) [118] (C.crypt (List.replicate 32 0) (List.replicate 12 0) 1#32 [112, 108, 97, 105, 110])) = false := by decide +kernel
  have hsh : (List.replicate 32 (0 : UInt8)).length = 32 ∧ (List.replicate 12 (0 : UInt8)).length = 12 := by simp
  have h1 := fun k M => seal_ev k M (List.replicate 32 0) (List.replicate 12 0) [119] [112, 108, 97, 105, 110] (by simp) (by simp) (by simp) (by simp)
  have hl := sealR_len (List.replicate 32 0) (List.replicate 12 0) [119] [112, 108, 97, 105, 110] hsh (by simp)
  have h2 := fun k M => open_ev k M (List.replicate 32 0) (List.replicate 12 0) [119] (sealR (List.replicate 32 0) (List.replicate 12 0) [119] [112, 108, 97, 105, 110]).1 (by simp) (by simp) (by simp) (by rw [hl]; simp)
  rw [open_seal _ _ _ _ hsh (by simp)] at h2
  have h3 := fun k M => open_ev k M (List.replicate 32 0) (List.replicate 12 0) [118] (sealR (List.replicate 32 0) (List.replicate 12 0) [119] [112, 108, 97, 105, 110]).1 (by simp) (by simp) (by simp) (by rw [hl]; simp)
  have hcl := C.crypt_len (List.replicate 32 0) (List.replicate 12 0) 1#32 [112, 108, 97, 105, 110]
  have e : sealR (List.replicate 32 0) (List.replicate 12 0) [119] [112, 108, 97, 105, 110] = (C.crypt (List.replicate 32 0) (List.replicate 12 0) 1#32 [112, 108, 97, 105, 110] ++ tg (List.replicate 32 0) (List.replicate 12 0) [119] (C.crypt (List.replicate 32 0) (List.replicate 12 0) 1#32 [112, 108, 97, 105, 110]), 0) := by
    rw [sealR, if_pos hsh, if_pos (by simp), cryR_ok _ _ _ _ hsh.1 hsh.2 (by simp)]
  have ho : openR (List.replicate 32 0) (List.replicate 12 0) [118] (sealR (List.replicate 32 0) (List.replicate 12 0) [119] [112, 108, 97, 105, 110]).1 = ([], 23) := by
    rw [openR, if_pos hsh, hl, if_pos (by simp), if_pos (by simp), e]
    have hd := List.drop_left' (l₂ := tg (List.replicate 32 0) (List.replicate 12 0) [119] (C.crypt (List.replicate 32 0) (List.replicate 12 0) 1#32 [112, 108, 97, 105, 110])) hcl
    have htk := List.take_left' (l₂ := tg (List.replicate 32 0) (List.replicate 12 0) [119] (C.crypt (List.replicate 32 0) (List.replicate 12 0) 1#32 [112, 108, 97, 105, 110])) hcl
    simp only [List.length_cons, List.length_nil, Nat.zero_add, Nat.reduceAdd, Nat.reduceSub] at hd htk ⊢
    rw [hd, htk, if_neg]
    simpa using hp
  rw [ho] at h3
  have h4 : (sealR (List.replicate 32 0) (List.replicate 12 0) [119] [112, 108, 97, 105, 110]).2 = 0 := by rw [e]
  rw [show ([112, 108, 97, 105, 110] : List UInt8).length + 16 = 21 from rfl] at hl
  clear hp e ho hcl
  generalize sealR (List.replicate 32 0) (List.replicate 12 0) [119] [112, 108, 97, 105, 110] = Z at *
  obtain ⟨Z1, Z2⟩ := Z
  simp only at h4 hl h2 h3 h1
  subst h4
  have z1 := bytesOf_rep 32
  have z2 := bytesOf_rep 12
  simp only [List.reduceReplicate] at z1 z2 h1 h2 h3
  rw [call_fn (by rfl) (by simp)]
  simp (disch := omega) [z1, z2, h1, h2, h3, hl, if_pos]

/-- Keys as an argument. -/
theorem keys_open {s : Scope} {v : AV} (h : ArgShp s (.st [.arr 32 (.int .u8), .arr 12 (.int .u8), .arr 2 (.int .u8)]) v) :
    ∃ (a b : List UInt8) (c0 c1 : UInt8), a.length = 32 ∧ b.length = 12 ∧ v = .agg (a.map byteAV ++ (b.map byteAV ++ [byteAV c0, byteAV c1])) := by
  obtain ⟨l, rfl, hl⟩ := ArgShp_agg rfl h
  obtain ⟨_, _, rfl, h1, _, _, rfl, h2, _, _, rfl, h3, rfl⟩ := hl
  obtain ⟨a, ha, rfl⟩ := Shp_arr8 h1
  obtain ⟨b, hb, rfl⟩ := Shp_arr8 h2
  obtain ⟨c, hc, rfl⟩ := Shp_arr8 h3
  match c, hc with
  | [c0, c1], _ => exact ⟨a, b, c0, c1, ha, hb, by simp⟩

theorem keysC (a b : List UInt8) (c0 c1 : UInt8) (ha : a.length = 32) (hb : b.length = 12) : ∃ X : List AV, a.map byteAV ++ (b.map byteAV ++ [byteAV c0, byteAV c1]) = X ∧ X.length = 46 ∧ X.take 46 = X ∧ AV.unders 0 X = true ∧ AV.noNils X = true ∧
    (∀ k M, callFn SP (k + 1) 27 [.agg X] M = some (.tuple [.str a, .str b], [], M)) ∧ ∃ u v : List UInt8, u.length ≤ 32 ∧ v.length ≤ 12 ∧ ∀ k M, callFn SP (k + 1) 21 [.agg X] M = some (.tuple [.str u, .str v], [], M) := by
  have hl : (a.map byteAV ++ (b.map byteAV ++ [byteAV c0, byteAV c1])).length = 46 := by simp [ha, hb]
  refine ⟨_, rfl, hl, List.take_of_length_le (by omega), by simp [AV.unders], by simp [AV.noNils], fun k M => whole_ev k M a b [c0, c1] ha hb rfl, ?_⟩
  refine ⟨a.take (32 - min c0.toNat 32), b.take (12 - min c1.toNat 12), by rw [List.length_take]; omega, by rw [List.length_take]; omega, fun k M => ?_⟩
  exact texts_ev' k M a b c0 c1 ha hb

theorem law9 (k : Nat) (M : Mem) (a b : List UInt8) (c0 c1 : UInt8) (ha : a.length = 32) (hb : b.length = 12) (w p : List UInt8) :
    callFn SP (k + 9) 9 [.agg (a.map byteAV ++ (b.map byteAV ++ [byteAV c0, byteAV c1])), .str w, .str p] M = some (.bool true, [], M) := by
  obtain ⟨X, hX, x1, x2, x3, x4, _, u, v, hu, hv, x5⟩ := keysC a b c0 c1 ha hb
  obtain ⟨N1, e1, e2, e3, e4⟩ : ∃ N : Nat, min (w.length : Int) 200 = N ∧ N ≤ w.length ∧ min w.length 200 = N ∧ N ≤ 200 := ⟨min 200 w.length, by omega, by omega, by omega, by omega⟩
  obtain ⟨N2, f1, f2, f3, f4⟩ : ∃ N : Nat, min (p.length : Int) 200 = N ∧ N ≤ p.length ∧ min p.length 200 = N ∧ N ≤ 200 := ⟨min 200 p.length, by omega, by omega, by omega, by omega⟩
  have h1 := fun k M => seal_ev k M u v (w.take N1) (p.take N2) (by omega) (by omega) (by rw [List.length_take]; omega) (by rw [List.length_take]; omega)
  have h2 := fun k M => refseal_ev k M u v (w.take N1) (p.take N2) (by omega) (by omega) (by rw [List.length_take]; omega) (by rw [List.length_take]; omega)
  generalize sealR u v (w.take N1) (p.take N2) = Z at *
  rw [hX, call_fn (by rfl) (by simp)]
  simp (disch := omega) [x1, x2, x3, x4, x5, e1, e2, e3, f1, f2, f3, h1, h2, wakes, if_pos]

theorem law10 (k : Nat) (M : Mem) (a b : List UInt8) (c0 c1 : UInt8) (ha : a.length = 32) (hb : b.length = 12) (w p : List UInt8) :
    callFn SP (k + 9) 10 [.agg (a.map byteAV ++ (b.map byteAV ++ [byteAV c0, byteAV c1])), .str w, .str p] M = some (.bool true, [], M) := by
  obtain ⟨X, hX, x1, x2, x3, x4, _, u, v, hu, hv, x5⟩ := keysC a b c0 c1 ha hb
  obtain ⟨N1, e1, e2, e3, e4⟩ : ∃ N : Nat, min (w.length : Int) 200 = N ∧ N ≤ w.length ∧ min w.length 200 = N ∧ N ≤ 200 := ⟨min 200 w.length, by omega, by omega, by omega, by omega⟩
  obtain ⟨N2, f1, f2, f3, f4⟩ : ∃ N : Nat, min (p.length : Int) 200 = N ∧ N ≤ p.length ∧ min p.length 200 = N ∧ N ≤ 200 := ⟨min 200 p.length, by omega, by omega, by omega, by omega⟩
  have h1 := fun k M => open_ev k M u v (w.take N1) (p.take N2) (by omega) (by omega) (by rw [List.length_take]; omega) (by rw [List.length_take]; omega)
  have h2 := fun k M => refopen_ev k M u v (w.take N1) (p.take N2) (by omega) (by omega) (by rw [List.length_take]; omega) (by rw [List.length_take]; omega)
  generalize openR u v (w.take N1) (p.take N2) = Z at *
  rw [hX, call_fn (by rfl) (by simp)]
  simp (disch := omega) [x1, x2, x3, x4, x5, e1, e2, e3, f1, f2, f3, h1, h2, wakes, if_pos]

theorem law11 (k : Nat) (M : Mem) (a b : List UInt8) (c0 c1 : UInt8) (ha : a.length = 32) (hb : b.length = 12) (w p : List UInt8) :
    callFn SP (k + 9) 11 [.agg (a.map byteAV ++ (b.map byteAV ++ [byteAV c0, byteAV c1])), .str w, .str p] M = some (.bool true, [], M) := by
  obtain ⟨X, hX, x1, x2, x3, x4, x5, _⟩ := keysC a b c0 c1 ha hb
  obtain ⟨N1, e1, e2, e3, e4⟩ : ∃ N : Nat, min (w.length : Int) 1000 = N ∧ N ≤ w.length ∧ min w.length 1000 = N ∧ N ≤ 1000 := ⟨min 1000 w.length, by omega, by omega, by omega, by omega⟩
  obtain ⟨N2, f1, f2, f3, f4⟩ : ∃ N : Nat, min (p.length : Int) 1000 = N ∧ N ≤ p.length ∧ min p.length 1000 = N ∧ N ≤ 1000 := ⟨min 1000 p.length, by omega, by omega, by omega, by omega⟩
  have l1 : (w.take N1).length = N1 := by rw [List.length_take]; omega
  have l2 : (p.take N2).length = N2 := by rw [List.length_take]; omega
  have h1 := fun k M => seal_ev k M a b (w.take N1) (p.take N2) (by omega) (by omega) (by omega) (by omega)
  have hl := sealR_len a b (w.take N1) (p.take N2) ⟨ha, hb⟩ ⟨by omega, by omega⟩
  have h2 := fun k M => open_ev k M a b (w.take N1) (sealR a b (w.take N1) (p.take N2)).1 (by omega) (by omega) (by omega) (by rw [hl]; omega)
  rw [open_seal _ _ _ _ ⟨ha, hb⟩ ⟨by omega, by omega⟩] at h2
  have h0 : (sealR a b (w.take N1) (p.take N2)).2 = 0 := by rw [sealR, if_pos ⟨ha, hb⟩, if_pos ⟨by omega, by omega⟩]
  obtain ⟨P, hP⟩ : ∃ P, p.take N2 = P := ⟨_, rfl⟩
  obtain ⟨Q, hQ⟩ : ∃ Q, w.take N1 = Q := ⟨_, rfl⟩
  rw [hP] at h1 h2 hl h0 l2
  rw [hQ] at h1 h2 hl h0 l1
  generalize sealR a b Q P = Z at *
  obtain ⟨Z1, Z2⟩ := Z
  simp only at h0 hl h1 h2
  subst h0
  have w16 : IntKind.wrap .i64 ((N2 : Int) + 16) = (N2 : Int) + 16 := IntWalk.i64_in _ (by omega)
  rw [hX, call_fn (by rfl) (by simp)]
  simp (disch := omega) [x1, x2, x3, x4, x5, e1, e2, e3, f1, f2, f3, h1, h2, wakes, hP, hQ, hl, l1, l2, w16, if_pos]

theorem xor_crypt (key nonce : List UInt8) (c : BitVec 32) (s t : List UInt8) : W.xorT (C.crypt key nonce c s) (C.crypt key nonce c t) = W.xorT s t := by
  rw [W.xorT, W.xorT, C.crypt_len, C.crypt_len]
  refine tab_congr _ _ _ fun p hp => ?_
  rw [C.crypt, nth_tab _ _ _ (by omega), C.crypt, nth_tab _ _ _ (by omega)]
  generalize nth s p = x
  generalize nth t p = y
  generalize C.ksb key nonce c p = z
  rw [UInt8.xor_assoc, UInt8.xor_comm y z, ← UInt8.xor_assoc z z y, UInt8.xor_self, UInt8.zero_xor]


theorem law13 (k : Nat) (M : Mem) (a b : List UInt8) (c0 c1 : UInt8) (ha : a.length = 32) (hb : b.length = 12) (s t : List UInt8) :
    callFn SP (k + 9) 13 [.agg (a.map byteAV ++ (b.map byteAV ++ [byteAV c0, byteAV c1])), .str s, .str t] M = some (.bool true, [], M) := by
  obtain ⟨X, hX, x1, x2, x3, x4, x5, _⟩ := keysC a b c0 c1 ha hb
  obtain ⟨N, e1, e2, e3, e4, e6⟩ : ∃ N : Nat, min (min (s.length : Int) t.length) 500 = N ∧ N ≤ s.length ∧ N ≤ t.length ∧ N ≤ 500 ∧ min (min s.length t.length) 500 = N := ⟨min (min s.length t.length) 500, by omega, by omega, by omega, by omega, rfl⟩
  have es : (s.take N).length = N := by rw [List.length_take]; omega
  have et : (t.take N).length = N := by rw [List.length_take]; omega
  obtain ⟨S, hS⟩ : ∃ S, s.take N = S := ⟨_, rfl⟩
  obtain ⟨T, hT⟩ : ∃ T, t.take N = T := ⟨_, rfl⟩
  rw [hS] at es
  rw [hT] at et
  have h1 := fun k M => seal_ev k M a b [115] S (by omega) (by omega) (by simp) (by omega)
  have h2 := fun k M => seal_ev k M a b [116] T (by omega) (by omega) (by simp) (by omega)
  have k1 : sealR a b [115] S = (C.crypt a b 1#32 S ++ tg a b [115] (C.crypt a b 1#32 S), 0) := by rw [sealR, if_pos ⟨ha, hb⟩, if_pos ⟨by simp, by omega⟩, cryR_ok _ _ _ _ ha hb (by omega)]
  have k2 : sealR a b [116] T = (C.crypt a b 1#32 T ++ tg a b [116] (C.crypt a b 1#32 T), 0) := by rw [sealR, if_pos ⟨ha, hb⟩, if_pos ⟨by simp, by omega⟩, cryR_ok _ _ _ _ ha hb (by omega)]
  have hls := C.crypt_len a b 1#32 S
  have hlt := C.crypt_len a b 1#32 T
  have g1 := tg_len a b [115] (C.crypt a b 1#32 S) (by simp) (by omega)
  have g2 := tg_len a b [116] (C.crypt a b 1#32 T) (by simp) (by omega)
  have hx := xor_crypt a b 1#32 S T
  have y1 := fun k M => xorC k M S T (by omega)
  have y2 := fun k M => xorC k M (C.crypt a b 1#32 S) (C.crypt a b 1#32 T) (by omega)
  rw [hx] at y2
  rw [k1] at h1
  rw [k2] at h2
  generalize C.crypt a b 1#32 S = CS at *
  generalize C.crypt a b 1#32 T = CT at *
  generalize tg a b [115] CS = TS at *
  generalize tg a b [116] CT = TT at *
  have t1 : (CS ++ TS).take N = CS := List.take_left' (by omega)
  have t2 : (CT ++ TT).take N = CT := List.take_left' (by omega)
  have m1 : (CS ++ TS).length = N + 16 := by rw [List.length_append]; omega
  have m2 : (CT ++ TT).length = N + 16 := by rw [List.length_append]; omega
  clear k1 k2 hx
  generalize CS ++ TS = Z1 at *
  generalize CT ++ TT = Z2 at *
  have w16 : IntKind.wrap .i64 ((N : Int) + 16) = (N : Int) + 16 := IntWalk.i64_in _ (by omega)
  rw [hX, call_fn (by rfl) (by simp)]
  simp (disch := omega) [x1, x2, x3, x4, x5, e1, e2, e3, e6, hS, hT, h1, h2, t1, t2, m1, m2, y1, y2, wakes, w16, if_pos]

/-- A byte of the tag another one: nothing is opened. -/
theorem open_flip (key nonce a p : List UInt8) (h : key.length = 32 ∧ nonce.length = 12) (ha : a.length ≤ 16384 ∧ p.length ≤ 16384) (i : Nat) (v : UInt8) (hi : p.length ≤ i) (hi2 : i < p.length + 16) (hv : v ≠ nth (sealR key nonce a p).1 i) :
    openR key nonce a ((sealR key nonce a p).1.set i v) = ([], 23) := by
  have hl := sealR_len key nonce a p h ha
  have hcl := C.crypt_len key nonce 1#32 p
  have e : (sealR key nonce a p).1 = C.crypt key nonce 1#32 p ++ tg key nonce a (C.crypt key nonce 1#32 p) := by
    rw [sealR, if_pos h, if_pos ha, cryR_ok key nonce p 1#32 h.1 h.2 (by omega)]
  have hd : (sealR key nonce a p).1.drop p.length = tg key nonce a (C.crypt key nonce 1#32 p) := by rw [e]; exact List.drop_left' hcl
  have htk : (sealR key nonce a p).1.take p.length = C.crypt key nonce 1#32 p := by rw [e]; exact List.take_left' hcl
  have hsl : ((sealR key nonce a p).1.set i v).length = p.length + 16 := by rw [List.length_set, hl]
  have htk2 : ((sealR key nonce a p).1.set i v).take p.length = C.crypt key nonce 1#32 p := by rw [List.take_set_of_le hi, htk]
  rw [openR, if_pos h, if_pos (by omega), if_pos ⟨ha.1, by omega⟩, hsl, show p.length + 16 - 16 = p.length by omega, htk2, if_neg]
  rw [← hd]
  intro hh
  apply hv
  have h1 := congrArg (fun l => nth l (i - p.length)) hh
  simp only [nth, List.getD, List.getElem?_drop] at h1
  rw [show p.length + (i - p.length) = i by omega] at h1
  rw [List.getElem?_set_self (by rw [hl]; exact hi2)] at h1
  simpa [nth, List.getD] using h1

theorem law12 (k : Nat) (M : Mem) (a b : List UInt8) (c0 c1 : UInt8) (ha : a.length = 32) (hb : b.length = 12) (p : List UInt8) (y0 y1 : UInt8) :
    callFn SP (k + 9) 12 [.agg (a.map byteAV ++ (b.map byteAV ++ [byteAV c0, byteAV c1])), .str p, .agg [byteAV y0, byteAV y1]] M = some (.bool true, [], M) := by
  obtain ⟨X, hX, x1, x2, x3, x4, x5, _⟩ := keysC a b c0 c1 ha hb
  obtain ⟨N2, f1, f2, f3, f4⟩ : ∃ N : Nat, min (p.length : Int) 300 = N ∧ N ≤ p.length ∧ min p.length 300 = N ∧ N ≤ 300 := ⟨min 300 p.length, by omega, by omega, by omega, by omega⟩
  have l2 : (p.take N2).length = N2 := by rw [List.length_take]; omega
  obtain ⟨P, hP⟩ : ∃ P, p.take N2 = P := ⟨_, rfl⟩
  rw [hP] at l2
  have h1 := fun k M => seal_ev k M a b [] P (by omega) (by omega) (by simp) (by omega)
  have hl := sealR_len a b [] P ⟨ha, hb⟩ ⟨by simp, by omega⟩
  have h0 : (sealR a b [] P).2 = 0 := by rw [sealR, if_pos ⟨ha, hb⟩, if_pos ⟨by simp, by omega⟩]
  obtain ⟨m, hm⟩ : ∃ m, (y0 % 16).toNat = m := ⟨_, rfl⟩
  have hm16 : m < 16 := by rw [← hm, UInt8.toNat_mod]; exact Nat.mod_lt _ (by decide)
  obtain ⟨i, hi⟩ : ∃ i, N2 + 15 - m = i := ⟨_, rfl⟩
  have h2 := fun k M => open_ev k M a b [] ((sealR a b [] P).1.set i (nth (sealR a b [] P).1 i ^^^ y1)) (by omega) (by omega) (by simp) (by rw [List.length_set, hl]; omega)
  have ho : openR a b [] ((sealR a b [] P).1.set i (nth (sealR a b [] P).1 i ^^^ y1)) = if y1 = 0 then (P, 0) else ([], 23) := by
    by_cases hy : y1 = 0
    · rw [if_pos hy, hy, UInt8.xor_zero]
      have : (sealR a b [] P).1.set i (nth (sealR a b [] P).1 i) = (sealR a b [] P).1 := by
        refine nth_ext (by simp) fun q hq => ?_
        rw [nth_set _ _ _ _ (by simpa using hq)]
        split
        · rename_i hh; rw [hh]
        · rfl
      rw [this, open_seal _ _ _ _ ⟨ha, hb⟩ ⟨by simp, by omega⟩]
    · rw [if_neg hy]
      refine open_flip a b [] P ⟨ha, hb⟩ ⟨by simp, by omega⟩ i _ (by omega) (by omega) fun hh => hy ?_
      have := UInt8.xor_right_inj (nth (sealR a b [] P).1 i) (a := y1) (b := 0)
      rw [UInt8.xor_zero] at this
      exact this.1 hh
  rw [ho] at h2
  have h2z := fun k M => open_ev k M a b [] (sealR a b [] P).1 (by omega) (by omega) (by simp) (by rw [hl]; omega)
  rw [open_seal _ _ _ _ ⟨ha, hb⟩ ⟨by simp, by omega⟩] at h2z
  rw [l2] at hl
  clear ho
  generalize sealR a b [] P = Z at *
  obtain ⟨Z1, Z2⟩ := Z
  simp only at h0 hl h1 h2 h2z
  subst h0
  have hg : (Z1.map byteAV)[i]? = some (byteAV (nth Z1 i)) := by rw [List.getElem?_map, getElem?_nth Z1 i (by omega)]; rfl
  have hset : (Z1.map byteAV).set i (byteAV (nth Z1 i ^^^ y1)) = (Z1.set i (nth Z1 i ^^^ y1)).map byteAV := by rw [List.map_set]
  have hzl : (Z1.map byteAV).length = N2 + 16 := by rw [List.length_map, hl]
  have hbs : bytesOf ((Z1.map byteAV).take (N2 + 16)) = some Z1 := by rw [List.take_of_length_le (by omega), bytesOf_map]
  have hsl : (Z1.set i (nth Z1 i ^^^ y1)).length = N2 + 16 := by rw [List.length_set, hl]
  have hbs2 : bytesOf (((Z1.set i (nth Z1 i ^^^ y1)).map byteAV).take (N2 + 16)) = some (Z1.set i (nth Z1 i ^^^ y1)) := by
    rw [List.take_of_length_le (by rw [List.length_map]; omega), bytesOf_map]
  have hsl2 : ((Z1.set i (nth Z1 i ^^^ y1)).map byteAV).length = N2 + 16 := by rw [List.length_map, hsl]
  generalize Z1.set i (nth Z1 i ^^^ y1) = Z3 at *
  obtain ⟨nv, hnv⟩ : ∃ nv, nth Z1 i ^^^ y1 = nv := ⟨_, rfl⟩
  rw [hnv] at hset
  generalize nth Z1 i = ov at *
  obtain ⟨ZC, hZC⟩ : ∃ ZC, Z1.map byteAV = ZC := ⟨_, rfl⟩
  rw [hZC] at hg hset hzl hbs
  have hgz : ∀ h : i < ZC.length, ZC[i] = byteAV ov := fun h => by rw [List.getElem?_eq_getElem h] at hg; exact Option.some.inj hg
  have w1 : IntKind.wrap .i64 ((N2 : Int) + 16 - 1) = (N2 : Int) + 15 := by rw [IntWalk.i64_in _ (by omega)]; omega
  have w2 : IntKind.wrap .i64 ((N2 : Int) + 15 - (m : Int)) = (i : Int) := by rw [IntWalk.i64_in _ (by omega)]; omega
  have hi2 : (i : Int) < (N2 : Int) + 16 := by omega
  have hi3 : i < N2 + 16 := by omega
  have hN : ¬ (N2 : Int) + 16 < 16 := by omega
  have hal : N2 + 16 ≤ 35184372088832 := by omega
  have h16 : ¬ (16 : UInt8) = 0 := by decide
  rw [hX, call_fn (by rfl) (by simp)]
  by_cases hy : y1 = 0
  · have hsz : ZC.set i (byteAV ov) = ZC := by
      apply List.ext_getElem?
      intro q
      rw [List.getElem?_set]
      split
      · rename_i hh; subst hh; rw [if_pos (by omega), hg]
      · rfl
    simp (disch := omega) [-List.map_set, -List.getElem?_map, x1, x2, x3, x4, x5, f1, f2, f3, hP, h1, h2z, wakes, hl, hal, hzl, hm, h16, w1, w2, hi2, hi3, hN, hg, hgz, hZC, hsz, hbs, hy, if_pos]
  · simp only [if_neg hy] at h2
    simp (disch := omega) [-List.map_set, -List.getElem?_map, x1, x2, x3, x4, x5, f1, f2, f3, hP, h1, h2, wakes, hl, hal, hzl, hm, h16, w1, w2, hi2, hi3, hN, hg, hgz, hZC, hnv, hset, hbs, hbs2, hsl2, hy, if_pos]
    trace_state

theorem law14 (k : Nat) (M : Mem) (a b : List UInt8) (c0 c1 : UInt8) (ha : a.length = 32) (hb : b.length = 12) (m sd : UInt8) :
    callFn SP (k + 9) 14 [.agg (a.map byteAV ++ (b.map byteAV ++ [byteAV c0, byteAV c1])), byteAV m, byteAV sd] M = some (.bool true, [], M) := by
  obtain ⟨X, hX, x1, x2, x3, x4, x5, _⟩ := keysC a b c0 c1 ha hb
  have hm := m.toNat_lt
  obtain ⟨L, hL⟩ : ∃ L, 16384 + m.toNat = L := ⟨_, rfl⟩
  have hw : IntKind.wrap .i64 (16384 + (m.toNat : Int)) = (L : Int) := by
    rw [IntWalk.i64_in _ ⟨by omega, by omega⟩]
    omega
  have hz := bytesOf_rep L
  have z16 := bytesOf_rep 16
  simp only [List.reduceReplicate] at z16
  have hl : (List.replicate L (0 : UInt8)).length = L := by simp
  generalize List.replicate L (0 : UInt8) = Z at *
  have main : ∀ (w p : List UInt8), w.length ≤ 20000 → p.length ≤ 20000 → (m = 0 → w.length ≤ 16384 ∧ p.length ≤ 16384) → (m ≠ 0 → ¬ (w.length ≤ 16384 ∧ p.length ≤ 16384)) →
      (m = 0 → (∀ k M, callFn SP (k + 7) 22 [.str a, .str b, .str w, .str p] M = some (.tuple [.str (sealR a b w p).1, .int .i64 0], [], M)) ∧ ∀ k M, callFn SP (k + 7) 25 [.str a, .str b, .str w, .str (sealR a b w p).1] M = some (.tuple [.str p, .int .i64 0], [], M)) ∧
      (m ≠ 0 → (∀ k M, callFn SP (k + 7) 22 [.str a, .str b, .str w, .str p] M = some (.tuple [.str [], .int .i64 5], [], M)) ∧ ∀ k M z, z.length = 16 → callFn SP (k + 7) 25 [.str a, .str b, .str w, .str (p ++ z)] M = some (.tuple [.str ((openR a b w (p ++ z)).1), .int .i64 5], [], M)) := by
    intro w p hw hp h0 h1
    refine ⟨fun hm0 => ?_, fun hm0 => ?_⟩
    · have hh := h0 hm0
      have e : (sealR a b w p).2 = 0 := by rw [sealR, if_pos ⟨ha, hb⟩, if_pos hh]
      refine ⟨fun k M => ?_, fun k M => ?_⟩
      · rw [← e]; exact seal_ev k M a b w p (by omega) (by omega) (by omega) (by omega)
      · have := open_ev k M a b w (sealR a b w p).1 (by omega) (by omega) (by omega) (by rw [sealR_len _ _ _ _ ⟨ha, hb⟩ hh]; omega)
        rwa [open_seal _ _ _ _ ⟨ha, hb⟩ hh] at this
    · have hh := h1 hm0
      refine ⟨fun k M => ?_, fun k M z hz => ?_⟩
      · have := seal_ev k M a b w p (by omega) (by omega) (by omega) (by omega)
        rwa [sealR, if_pos ⟨ha, hb⟩, if_neg hh] at this
      · have := open_ev k M a b w (p ++ z) (by omega) (by omega) (by omega) (by rw [List.length_append]; omega)
        have e : openR a b w (p ++ z) = ([], 5) := by
          rw [openR, if_pos ⟨ha, hb⟩, List.length_append, hz, if_pos (by omega), if_neg (fun h => hh ⟨h.1, by omega⟩)]
        rw [e] at this ⊢
        exact this
  have hp1 : ∀ (z : List UInt8), z.length ≤ 20000 → z.length + 16 ≤ 4611686018427387904 := fun z hz => by omega
  rw [hX, call_fn (by rfl) (by simp)]
  by_cases h0 : m = 0
  · have hL0 : L = 16384 := by rw [← hL, h0]; rfl
    have hpos : ¬ (0 : UInt8) < m := by rw [h0]; decide
    by_cases hs : sd &&& 1 = 1
    · have q := (main [119] Z (by simp) (by omega) (fun _ => ⟨by simp, by omega⟩) (fun h => absurd h0 h)).1 h0
      simp (disch := omega) [x1, x2, x3, x4, x5, hw, hz, hs, hpos, q.1, q.2, wakes, if_pos]
    · have q := (main Z [112] (by omega) (by simp) (fun _ => ⟨by omega, by simp⟩) (fun h => absurd h0 h)).1 h0
      simp (disch := omega) [x1, x2, x3, x4, x5, hw, hz, hs, hpos, q.1, q.2, wakes, if_pos]
  · have hL0 : ¬ L ≤ 16384 := fun h => h0 (UInt8.toNat_inj.1 (show m.toNat = 0 by omega))
    have hpos : (0 : UInt8) < m := by
      rw [UInt8.lt_iff_toNat_lt]
      show 0 < m.toNat
      omega
    by_cases hs : sd &&& 1 = 1
    · have q := (main [119] Z (by simp) (by omega) (fun h => absurd h h0) (fun _ h => hL0 (by omega))).2 h0
      simp (disch := first | omega | (simp; done) | (simp; omega)) [x1, x2, x3, x4, x5, hw, hz, z16, hs, hpos, hl, q.1, q.2, wakes, if_pos]
    · have q := (main Z [112] (by omega) (by simp) (fun h => absurd h h0) (fun _ h => hL0 (by omega))).2 h0
      simp only [List.cons_append, List.nil_append] at q
      simp (disch := first | omega | (simp; done) | (simp; omega)) [x1, x2, x3, x4, x5, hw, hz, z16, hs, hpos, hl, q.1, q.2, wakes, if_pos]

theorem ev_AeadSeals (s : Scope) (args : List AV) (h : ArgsShp s [.st [.arr 32 (.int .u8), .arr 12 (.int .u8), .arr 2 (.int .u8)], .str, .str] args) : ∃ k M', callFn SP k 9 args [s, mk []] = some (.bool true, [], M') := by
  obtain ⟨_, _, rfl, h1, _, _, rfl, h2, _, _, rfl, h3, rfl⟩ := h
  obtain ⟨a, b, c0, c1, ha, hb, rfl⟩ := keys_open h1
  obtain ⟨w, rfl, _⟩ := ArgShp_str h2
  obtain ⟨p, rfl, _⟩ := ArgShp_str h3
  exact ⟨9, _, law9 0 [s, mk []] a b c0 c1 ha hb w p⟩

theorem ev_AeadOpens (s : Scope) (args : List AV) (h : ArgsShp s [.st [.arr 32 (.int .u8), .arr 12 (.int .u8), .arr 2 (.int .u8)], .str, .str] args) : ∃ k M', callFn SP k 10 args [s, mk []] = some (.bool true, [], M') := by
  obtain ⟨_, _, rfl, h1, _, _, rfl, h2, _, _, rfl, h3, rfl⟩ := h
  obtain ⟨a, b, c0, c1, ha, hb, rfl⟩ := keys_open h1
  obtain ⟨w, rfl, _⟩ := ArgShp_str h2
  obtain ⟨p, rfl, _⟩ := ArgShp_str h3
  exact ⟨9, _, law10 0 [s, mk []] a b c0 c1 ha hb w p⟩

theorem ev_AeadBack (s : Scope) (args : List AV) (h : ArgsShp s [.st [.arr 32 (.int .u8), .arr 12 (.int .u8), .arr 2 (.int .u8)], .str, .str] args) : ∃ k M', callFn SP k 11 args [s, mk []] = some (.bool true, [], M') := by
  obtain ⟨_, _, rfl, h1, _, _, rfl, h2, _, _, rfl, h3, rfl⟩ := h
  obtain ⟨a, b, c0, c1, ha, hb, rfl⟩ := keys_open h1
  obtain ⟨w, rfl, _⟩ := ArgShp_str h2
  obtain ⟨p, rfl, _⟩ := ArgShp_str h3
  exact ⟨9, _, law11 0 [s, mk []] a b c0 c1 ha hb w p⟩

theorem ev_AeadStream (s : Scope) (args : List AV) (h : ArgsShp s [.st [.arr 32 (.int .u8), .arr 12 (.int .u8), .arr 2 (.int .u8)], .str, .str] args) : ∃ k M', callFn SP k 13 args [s, mk []] = some (.bool true, [], M') := by
  obtain ⟨_, _, rfl, h1, _, _, rfl, h2, _, _, rfl, h3, rfl⟩ := h
  obtain ⟨a, b, c0, c1, ha, hb, rfl⟩ := keys_open h1
  obtain ⟨w, rfl, _⟩ := ArgShp_str h2
  obtain ⟨p, rfl, _⟩ := ArgShp_str h3
  exact ⟨9, _, law13 0 [s, mk []] a b c0 c1 ha hb w p⟩

theorem ev_AeadTag (s : Scope) (args : List AV) (h : ArgsShp s [.st [.arr 32 (.int .u8), .arr 12 (.int .u8), .arr 2 (.int .u8)], .str, .arr 2 (.int .u8)] args) : ∃ k M', callFn SP k 12 args [s, mk []] = some (.bool true, [], M') := by
  obtain ⟨_, _, rfl, h1, _, _, rfl, h2, _, _, rfl, h3, rfl⟩ := h
  obtain ⟨a, b, c0, c1, ha, hb, rfl⟩ := keys_open h1
  obtain ⟨w, rfl, _⟩ := ArgShp_str h2
  obtain ⟨y, hy, rfl⟩ := ArgShp_arr8 h3
  match y, hy with
  | [y0, y1], _ => exact ⟨9, _, law12 0 [s, mk []] a b c0 c1 ha hb w y0 y1⟩

theorem ev_AeadLong (s : Scope) (args : List AV) (h : ArgsShp s [.st [.arr 32 (.int .u8), .arr 12 (.int .u8), .arr 2 (.int .u8)], .int .u8, .int .u8] args) : ∃ k M', callFn SP k 14 args [s, mk []] = some (.bool true, [], M') := by
  obtain ⟨_, _, rfl, h1, _, _, rfl, h2, _, _, rfl, h3, rfl⟩ := h
  obtain ⟨a, b, c0, c1, ha, hb, rfl⟩ := keys_open h1
  obtain ⟨m, rfl⟩ := ArgShp_u8 h2
  obtain ⟨d, rfl⟩ := ArgShp_u8 h3
  exact ⟨9, _, law14 0 [s, mk []] a b c0 c1 ha hb m d⟩
end Go.Proofs.Ytpaagjjgmlmngaa
