/-
  AEAD, part L: the document's tag, whole; sealed and opened; the fixed words.
-/
import Derived.Test.YtpaagjjgmlmngaaK
set_option maxRecDepth 100000
set_option maxHeartbeats 2000000
set_option linter.unusedSimpArgs false
set_option linter.unusedVariables false
namespace Go.Proofs.Ytpaagjjgmlmngaa
open Go.Det Go.Det.P Go.Det.PR

theorem fill_top (k : Nat) (M : Mem) (d id z : Nat) (l : List UInt8) (r : List (Nat × Con)) (hdm : d = M.length) (hz : z = l.length) (hl : l.length < 2 ^ 39) :
    callFn SP (k + 1) 51 [.slice (some ⟨d, id, z, 0⟩) z 1] (mk ((id, .cells (l.map byteAV) true true) :: r) :: M) = some (.slice (some ⟨d, id, (padT l).length, 0⟩) (padT l).length 1, [], mk ((id, .cells ((padT l).map byteAV) true true) :: r) :: M) := by
  subst hdm
  subst hz
  have h := fill_ev k (mk ((id, .cells (l.map byteAV) true true) :: r) :: M) M.length id l.length l (by simp) rfl (fun o => by rw [get_top, mk_cons, if_pos rfl]; simp [Con.size]) hl (by rw [put_top, setAt_mk]; simp [ups])
  rw [put_top, setAt_mk] at h
  simpa [ups] using h
theorem size_top (k : Nat) (M : Mem) (d id z : Nat) (l : List UInt8) (m : Nat) (hm : m < 2 ^ 62) (r : List (Nat × Con)) (hdm : d = M.length) (hz : z = l.length) (hl : l.length < 2 ^ 39) :
    callFn SP (k + 1) 52 [.slice (some ⟨d, id, z, 0⟩) z 1, .int .i64 m] (mk ((id, .cells (l.map byteAV) true true) :: r) :: M) = some (.slice (some ⟨d, id, (l ++ le8 m).length, 0⟩) (l ++ le8 m).length 1, [], mk ((id, .cells ((l ++ le8 m).map byteAV) true true) :: r) :: M) := by
  subst hdm
  subst hz
  have h := size_ev k (mk ((id, .cells (l.map byteAV) true true) :: r) :: M) M.length id l.length l m hm (by simp) rfl (fun o => by rw [get_top, mk_cons, if_pos rfl]; simp [Con.size]) hl (by rw [put_top, setAt_mk]; simp [ups])
  rw [put_top, setAt_mk] at h
  generalize l ++ le8 m = X at *
  simpa [ups] using h

theorem padT_pad (a b : List UInt8) : padT (padT a ++ b) = padT a ++ padT b := by
  have h : (padT a).length % 16 = 0 := by rw [padT_len]; unfold pn; omega
  have e : pn (padT a ++ b).length = pn b.length := by rw [List.length_append]; unfold pn; omega
  rw [padT, e, padT.eq_1 b, List.append_assoc]

theorem l39 (C : Det.Calls) (M : Mem) (wit : AV) (hw : AV.ids M.length wit = []) (ks : AV) (hks : AV.ids M.length ks = []) (p b : List UInt8) (hp : p.length < 2 ^ 40) (hb : b.length < 2 ^ 40) (j : Nat) : ∀ (i n : Nat), i + j = b.length → j < n →
    fgt a39_0 (rnd0 (some (e39_0 wit (.str b) ks (.slice (some ⟨M.length, 8004, (p ++ b.take i).length, 0⟩) (p ++ b.take i).length 1) (.int .i64 i), mk [(8004, .cells ((p ++ b.take i).map byteAV) true true)] :: M)) k39_0 C s39_b0 n) =
      some (.exit 0, x39_0 wit (.str b) ks (.slice (some ⟨M.length, 8004, (p ++ b).length, 0⟩) (p ++ b).length 1), mk [(8004, .cells ((p ++ b).map byteAV) true true)] :: M) := by
  induction j with
  | zero =>
    intro i n h hn
    obtain rfl : i = b.length := by omega
    obtain ⟨n, rfl⟩ : ∃ m, n = m + 1 := ⟨n - 1, by omega⟩
    rw [List.take_length]
    generalize p ++ b = X at *
    rw [rnd0_some]
    conv => lhs; arg 2; arg 1; rw [s39_b0]
    simp (disch := omega) [hw, hks]
  | succ j ih0 =>
    intro i n h hn
    obtain ⟨n, rfl⟩ : ∃ m, n = m + 1 := ⟨n - 1, by omega⟩
    have hi : i < b.length := by omega
    have ih := ih0 (i + 1) n (by omega) (by omega)
    have e1 : b.take (i + 1) = b.take i ++ [nth b i] := by rw [List.take_add_one, getElem?_nth b i hi]; rfl
    rw [e1, ← List.append_assoc] at ih
    have hL : (p ++ b.take i).length = p.length + i := by rw [List.length_append, List.length_take]; omega
    generalize p ++ b = X at *
    generalize p ++ b.take i = L at *
    rw [rnd0_some]
    conv => lhs; arg 2; arg 1; rw [s39_b0]
    simpa (disch := omega) [hi, byteAt_lt, hL, hw, hks, if_pos, IntWalk.i64_in] using ih

theorem reftag_ev (k : Nat) (M : Mem) (key nonce a b : List UInt8) (hk : key.length = 32) (hn : nonce.length = 12) (ha : a.length < 2 ^ 38) (hb : b.length < 2 ^ 37) : callFn SP (k + 6) 39 [.str key, .str nonce, .str a, .str b] M = some (.str (tg key nonce a b), [], M) := by
  have h1 := fun k M => rblkC k M key nonce 0#32
  have e1 : C.blockR key nonce 0#32 = (C.stream key nonce 0#32, 0) := if_pos ⟨hk, hn⟩
  rw [e1] at h1
  have hs := C.stream_len key nonce 0#32
  have pa := padT_len a
  have pb := padT_len b
  have qa := pn_lt a.length
  have qb := pn_lt b.length
  have la := le8_len a.length
  have lb := le8_len b.length
  have f1 := fun k (M : Mem) d r hdm => fill_top k M d 8004 a.length a r hdm rfl (by omega)
  have hpb : (padT a ++ b).length < 2 ^ 39 := by rw [List.length_append]; omega
  have f2 := fun k (M : Mem) d r hdm => fill_top k M d 8004 (padT a ++ b).length (padT a ++ b) r hdm rfl hpb
  rw [padT_pad] at f2
  have hpp : (padT a ++ padT b).length < 2 ^ 39 := by rw [List.length_append]; omega
  have z1 := fun k (M : Mem) d r hdm => size_top k M d 8004 (padT a ++ padT b).length (padT a ++ padT b) a.length (by omega) r hdm rfl hpp
  have hpz : (padT a ++ padT b ++ le8 a.length).length < 2 ^ 39 := by rw [List.length_append, List.length_append, la]; omega
  have z2 := fun k (M : Mem) d r hdm => size_top k M d 8004 (padT a ++ padT b ++ le8 a.length).length (padT a ++ padT b ++ le8 a.length) b.length (by omega) r hdm rfl hpz
  have q := l39 (callFn SP (k + 5)) M (.str a) (by simp) (.str (C.stream key nonce 0#32)) (by simp) (padT a) b (by omega) (by omega) b.length 0 (b.length + 1) (by omega) (by omega)
  rw [List.take_zero, List.append_nil] at q
  have et : padT a ++ padT b ++ le8 a.length ++ le8 b.length = tgT a b := by simp [tgT]
  rw [et] at z2
  have h5 := fun k M key => rsumC k M key (tgT a b) (by rw [tgT_len]; omega)
  have htl : bytesOf (((tgT a b).map byteAV).take (tgT a b).length) = some (tgT a b) := by rw [← List.map_take, List.take_length, bytesOf_map]
  unfold tg
  generalize tgT a b = T at *
  clear et
  generalize C.stream key nonce 0#32 = S at *
  generalize padT a ++ padT b ++ le8 a.length = X3 at *
  generalize padT a ++ padT b = X2 at *
  generalize padT a ++ b = X1 at *
  generalize padT a = PA at *
  have al : a.length ≤ 35184372088832 := by omega
  rw [call_fn (by rfl) (by simp)]
  simp (disch := first | omega | (simp; done) | (simp; omega)) [h1, f1, al, if_pos]
  rw [ev_loop (b.length + 1) (by simp) q (by omega)]
  simp (disch := first | omega | (simp; done) | (simp; omega)) [f2, z1, z2, h5, htl, hs, if_pos]

/-! ### sealed and opened -/
def sealR (key nonce a p : List UInt8) : List UInt8 × Int :=
  if key.length = 32 ∧ nonce.length = 12 then
    if a.length ≤ 16384 ∧ p.length ≤ 16384 then ((C.cryptR key nonce 1#32 p).1 ++ tg key nonce a (C.cryptR key nonce 1#32 p).1, 0) else ([], 5)
  else ([], 7)

theorem cryR_ok (key nonce s : List UInt8) (c : BitVec 32) (hk : key.length = 32) (hn : nonce.length = 12) (hs : s.length ≤ 65536) : C.cryptR key nonce c s = (C.crypt key nonce c s, 0) := by
  rw [C.cryptR, if_pos ⟨hk, hn⟩, if_pos hs]

theorem tg_len (key nonce a b : List UInt8) (ha : a.length ≤ 16384) (hb : b.length ≤ 20000) : (tg key nonce a b).length = 16 := by
  have hs := C.stream_len key nonce 0#32
  have hk : ((C.stream key nonce 0#32).take 32).length = 32 := by rw [List.length_take]; omega
  have pa := padT_len a
  have pb := padT_len b
  have qa := pn_lt a.length
  have qb := pn_lt b.length
  rw [tg, Go.Det.P.sumR, if_pos hk, if_pos (by rw [tgT_len]; omega)]
  exact (tag_nat _ _ hk).2

theorem seal_ev (k : Nat) (M : Mem) (key nonce a p : List UInt8) (hkl : key.length < 2 ^ 40) (hnl : nonce.length < 2 ^ 40) (hal : a.length < 2 ^ 40) (hpl : p.length < 2 ^ 40) : callFn SP (k + 7) 22 [.str key, .str nonce, .str a, .str p] M = some (.tuple [.str (sealR key nonce a p).1, .int .i64 (sealR key nonce a p).2], [], M) := by
  have hsh := fun k M => shape_ev k M key nonce
  rw [call_fn (by rfl) (by simp)]
  unfold sealR
  by_cases h : key.length = 32 ∧ nonce.length = 12
  · rw [if_pos h]
    simp only [decide_eq_true h] at hsh
    by_cases ha : a.length ≤ 16384
    · by_cases hp : p.length ≤ 16384
      · rw [if_pos ⟨ha, hp⟩]
        have hc := fun k M => cryC k M key nonce 1#32 p (by omega)
        have ec := cryR_ok key nonce p 1#32 h.1 h.2 (by omega)
        have hcl := C.crypt_len key nonce 1#32 p
        have ht := fun k M => tag_ev k M key nonce a (C.cryptR key nonce 1#32 p).1 h.1 h.2 (by omega) (by rw [ec, hcl]; omega)
        rw [ec] at hc ht ⊢
        have htl := tg_len key nonce a (C.crypt key nonce 1#32 p) (by omega) (by omega)
        generalize C.crypt key nonce 1#32 p = X at *
        generalize tg key nonce a X = T at *
        have h1 : ¬ (16384 : Int) < a.length := by omega
        have h2 : ¬ (16384 : Int) < p.length := by omega
        simp (disch := omega) [hsh, h1, h2, hc, ht, hcl, htl, if_pos]
      · rw [if_neg (fun hh => hp hh.2)]
        have h1 : ¬ (16384 : Int) < a.length := by omega
        have h2 : (16384 : Int) < p.length := by omega
        simp (disch := omega) [hsh, h1, h2, if_pos]
    · rw [if_neg (fun hh => ha hh.1)]
      have h1 : (16384 : Int) < a.length := by omega
      simp (disch := omega) [hsh, h1, if_pos]
  · rw [if_neg h]
    simp only [decide_eq_false h] at hsh
    simp (disch := omega) [hsh, if_pos]

theorem sealR_len (key nonce a p : List UInt8) (h : key.length = 32 ∧ nonce.length = 12) (ha : a.length ≤ 16384 ∧ p.length ≤ 16384) : (sealR key nonce a p).1.length = p.length + 16 := by
  rw [sealR, if_pos h, if_pos ha, cryR_ok key nonce p 1#32 h.1 h.2 (by omega), List.length_append, C.crypt_len, tg_len _ _ _ _ ha.1 (by rw [C.crypt_len]; omega)]

theorem refseal_ev (k : Nat) (M : Mem) (key nonce a p : List UInt8) (hkl : key.length < 2 ^ 40) (hnl : nonce.length < 2 ^ 40) (hal : a.length < 2 ^ 40) (hpl : p.length < 2 ^ 40) : callFn SP (k + 7) 23 [.str key, .str nonce, .str a, .str p] M = some (.tuple [.str (sealR key nonce a p).1, .int .i64 (sealR key nonce a p).2], [], M) := by
  rw [call_fn (by rfl) (by simp)]
  unfold sealR
  by_cases h : key.length = 32 ∧ nonce.length = 12
  · rw [if_pos h]
    by_cases ha : a.length ≤ 16384
    · by_cases hp : p.length ≤ 16384
      · rw [if_pos ⟨ha, hp⟩]
        have hc := fun k M => rcryC k M key nonce 1#32 p (by omega)
        have ec := cryR_ok key nonce p 1#32 h.1 h.2 (by omega)
        have hcl := C.crypt_len key nonce 1#32 p
        have ht := fun k M => reftag_ev k M key nonce a (C.cryptR key nonce 1#32 p).1 h.1 h.2 (by omega) (by rw [ec, hcl]; omega)
        rw [ec] at hc ht ⊢
        have htl := tg_len key nonce a (C.crypt key nonce 1#32 p) (by omega) (by omega)
        generalize C.crypt key nonce 1#32 p = X at *
        generalize tg key nonce a X = T at *
        have h1 : ¬ (16384 : Int) < a.length := by omega
        have h2 : ¬ (16384 : Int) < p.length := by omega
        simp (disch := omega) [h.1, h.2, h1, h2, hc, ht, hcl, htl, if_pos]
      · rw [if_neg (fun hh => hp hh.2)]
        have h1 : ¬ (16384 : Int) < a.length := by omega
        have h2 : (16384 : Int) < p.length := by omega
        simp (disch := omega) [h.1, h.2, h1, h2, if_pos]
    · rw [if_neg (fun hh => ha hh.1)]
      have h1 : (16384 : Int) < a.length := by omega
      simp (disch := omega) [h.1, h.2, h1, if_pos]
  · rw [if_neg h]
    by_cases h3 : key.length = 32
    · have h4 : ¬ (nonce.length : Int) = 12 := fun hh => h ⟨h3, by omega⟩
      simp (disch := omega) [h3, h4, if_pos]
    · have h5 : ¬ (key.length : Int) = 32 := by omega
      simp (disch := omega) [h5, if_pos]

def openR (key nonce a c : List UInt8) : List UInt8 × Int :=
  if key.length = 32 ∧ nonce.length = 12 then
    if 16 ≤ c.length then
      if a.length ≤ 16384 ∧ c.length ≤ 16400 then
        if c.drop (c.length - 16) = tg key nonce a (c.take (c.length - 16)) then C.cryptR key nonce 1#32 (c.take (c.length - 16)) else ([], 23)
      else ([], 5)
    else ([], 3)
  else ([], 7)

theorem open_ev (k : Nat) (M : Mem) (key nonce a c : List UInt8) (hkl : key.length < 2 ^ 40) (hnl : nonce.length < 2 ^ 40) (hal : a.length < 2 ^ 40) (hcl : c.length < 2 ^ 40) : callFn SP (k + 7) 25 [.str key, .str nonce, .str a, .str c] M = some (.tuple [.str (openR key nonce a c).1, .int .i64 (openR key nonce a c).2], [], M) := by
  have hsh := fun k M => shape_ev k M key nonce
  have w0 : IntKind.wrap .i64 ((c.length : Int) - 16) = (c.length : Int) - 16 := IntWalk.i64_in _ (by omega)
  rw [call_fn (by rfl) (by simp)]
  unfold openR
  by_cases h : key.length = 32 ∧ nonce.length = 12
  · rw [if_pos h]
    simp only [decide_eq_true h] at hsh
    by_cases h16 : 16 ≤ c.length
    · rw [if_pos h16]
      obtain ⟨n, hn⟩ : ∃ n, c.length - 16 = n := ⟨_, rfl⟩
      have w1 : (c.length : Int) - 16 = (n : Int) := by omega
      have w2 : IntKind.wrap .i64 (n : Int) = (n : Int) := IntWalk.i64_in _ (by omega)
      rw [w1] at w0
      have hnc : n ≤ c.length := by omega
      rw [hn]
      by_cases ha : a.length ≤ 16384
      · have h1 : ¬ (16384 : Int) < a.length := by omega
        by_cases hp : c.length ≤ 16400
        · have h2 : ¬ 16384 < n := by omega
          rw [if_pos ⟨ha, hp⟩]
          have ht := fun k M => tag_ev k M key nonce a (c.take n) h.1 h.2 (by omega) (by rw [List.length_take]; omega)
          have hc := fun k M => cryC k M key nonce 1#32 (c.take n) (by rw [List.length_take]; omega)
          have he := fun k M T => equal_ev k M (c.drop n) T (by rw [List.length_drop]; omega)
          generalize tg key nonce a (c.take n) = T at *
          generalize C.cryptR key nonce 1#32 (c.take n) = R at *
          by_cases hq : c.drop n = T
          · rw [if_pos hq]
            rw [hq] at he
            simp (disch := omega) [hsh, w0, w1, w2, h1, h2, hnc, ht, hc, he, hq, if_pos]
          · rw [if_neg hq]
            simp (disch := omega) [hsh, w0, w1, w2, h1, h2, hnc, ht, hc, he, hq, if_pos]
        · have h2 : 16384 < n := by omega
          rw [if_neg (fun hh => hp hh.2)]
          simp (disch := omega) [hsh, w0, w1, w2, h1, h2, if_pos]
      · have h1 : (16384 : Int) < a.length := by omega
        rw [if_neg (fun hh => ha hh.1)]
        simp (disch := omega) [hsh, w0, w1, w2, h1, if_pos]
    · rw [if_neg h16]
      have h1 : (c.length : Int) - 16 < 0 := by omega
      simp (disch := omega) [hsh, w0, h1, if_pos]
  · rw [if_neg h]
    simp only [decide_eq_false h] at hsh
    simp (disch := omega) [hsh, w0, if_pos]

theorem refopen_ev (k : Nat) (M : Mem) (key nonce a c : List UInt8) (hkl : key.length < 2 ^ 40) (hnl : nonce.length < 2 ^ 40) (hal : a.length < 2 ^ 40) (hcl : c.length < 2 ^ 40) : callFn SP (k + 7) 26 [.str key, .str nonce, .str a, .str c] M = some (.tuple [.str (openR key nonce a c).1, .int .i64 (openR key nonce a c).2], [], M) := by
  have w0 : IntKind.wrap .i64 ((c.length : Int) - 16) = (c.length : Int) - 16 := IntWalk.i64_in _ (by omega)
  rw [call_fn (by rfl) (by simp)]
  unfold openR
  by_cases h : key.length = 32 ∧ nonce.length = 12
  · rw [if_pos h]
    by_cases h16 : 16 ≤ c.length
    · rw [if_pos h16]
      obtain ⟨n, hn⟩ : ∃ n, c.length - 16 = n := ⟨_, rfl⟩
      have w1 : (c.length : Int) - 16 = (n : Int) := by omega
      have w2 : IntKind.wrap .i64 (n : Int) = (n : Int) := IntWalk.i64_in _ (by omega)
      rw [w1] at w0
      have hnc : n ≤ c.length := by omega
      have h0 : ¬ (c.length : Int) < 16 := by omega
      rw [hn]
      by_cases ha : a.length ≤ 16384
      · have h1 : ¬ (16384 : Int) < a.length := by omega
        by_cases hp : c.length ≤ 16400
        · have h2 : ¬ 16384 < n := by omega
          rw [if_pos ⟨ha, hp⟩]
          have ht := fun k M => reftag_ev k M key nonce a (c.take n) h.1 h.2 (by omega) (by rw [List.length_take]; omega)
          have hc := fun k M => rcryC k M key nonce 1#32 (c.take n) (by rw [List.length_take]; omega)
          have hr2 : (C.cryptR key nonce 1#32 (c.take n)).2 = 0 := by rw [cryR_ok _ _ _ _ h.1 h.2 (by rw [List.length_take]; omega)]
          generalize tg key nonce a (c.take n) = T at *
          generalize C.cryptR key nonce 1#32 (c.take n) = R at *
          by_cases hq : c.drop n = T
          · rw [if_pos hq]
            simp (disch := omega) [h.1, h.2, h0, w0, w1, w2, h1, h2, hnc, ht, hc, hq, hr2, if_pos]
          · rw [if_neg hq]
            have hq2 : ¬ T = c.drop n := fun hh => hq hh.symm
            simp (disch := omega) [h.1, h.2, h0, w0, w1, w2, h1, h2, hnc, ht, hc, hq, hq2, if_pos]
        · have h2 : 16384 < n := by omega
          rw [if_neg (fun hh => hp hh.2)]
          simp (disch := omega) [h.1, h.2, h0, w0, w1, w2, h1, h2, if_pos]
      · have h1 : (16384 : Int) < a.length := by omega
        rw [if_neg (fun hh => ha hh.1)]
        simp (disch := omega) [h.1, h.2, h0, w0, w1, w2, h1, if_pos]
    · rw [if_neg h16]
      have h1 : (c.length : Int) < 16 := by omega
      simp (disch := omega) [h.1, h.2, w0, h1, if_pos]
  · rw [if_neg h]
    by_cases h3 : key.length = 32
    · have h4 : ¬ (nonce.length : Int) = 12 := fun hh => h ⟨h3, by omega⟩
      simp (disch := omega) [h3, h4, if_pos]
    · have h5 : ¬ (key.length : Int) = 32 := by omega
      simp (disch := omega) [h5, if_pos]

theorem crypt_twice (key nonce s : List UInt8) (c : BitVec 32) : C.crypt key nonce c (C.crypt key nonce c s) = s := by
  refine nth_ext (by rw [C.crypt_len, C.crypt_len]) fun i hi => ?_
  rw [C.crypt_len, C.crypt_len] at hi
  rw [C.crypt, nth_tab _ _ _ (by rw [C.crypt_len]; exact hi), C.crypt, nth_tab _ _ _ hi, UInt8.xor_assoc, UInt8.xor_self, UInt8.xor_zero]

/-- What was sealed is opened. -/
theorem open_seal (key nonce a p : List UInt8) (h : key.length = 32 ∧ nonce.length = 12) (ha : a.length ≤ 16384 ∧ p.length ≤ 16384) : openR key nonce a (sealR key nonce a p).1 = (p, 0) := by
  have hl := sealR_len key nonce a p h ha
  have hcl := C.crypt_len key nonce 1#32 p
  have e : (sealR key nonce a p).1 = C.crypt key nonce 1#32 p ++ tg key nonce a (C.crypt key nonce 1#32 p) := by
    rw [sealR, if_pos h, if_pos ha, cryR_ok key nonce p 1#32 h.1 h.2 (by omega)]
  have hd : (sealR key nonce a p).1.drop p.length = tg key nonce a (C.crypt key nonce 1#32 p) := by rw [e]; exact List.drop_left' hcl
  have htk : (sealR key nonce a p).1.take p.length = C.crypt key nonce 1#32 p := by rw [e]; exact List.take_left' hcl
  rw [openR, if_pos h, if_pos (by omega), if_pos ⟨ha.1, by omega⟩, hl, show p.length + 16 - 16 = p.length by omega, hd, htk, if_pos rfl, cryR_ok _ _ _ _ h.1 h.2 (by omega), crypt_twice]

/-! ### the keys -/
theorem whole_ev (k : Nat) (M : Mem) (a b c : List UInt8) (ha : a.length = 32) (hb : b.length = 12) (hc : c.length = 2) :
    callFn SP (k + 1) 27 [.agg (a.map byteAV ++ (b.map byteAV ++ c.map byteAV))] M = some (.tuple [.str a, .str b], [], M) := by
  obtain ⟨X, hX⟩ : ∃ X, a.map byteAV ++ (b.map byteAV ++ c.map byteAV) = X := ⟨_, rfl⟩
  have h1 : X.length = 46 := by rw [← hX]; simp [ha, hb, hc]
  have h2 : X.take 32 = a.map byteAV := by rw [← hX]; exact List.take_left' (by simp [ha])
  have h3 : (X.drop 32).take 12 = b.map byteAV := by rw [← hX, List.drop_left' (by simp [ha])]; exact List.take_left' (by simp [hb])
  have h5 : AV.unders 0 X = true := by rw [← hX]; simp [AV.unders]
  have h6 : AV.noNils X = true := by rw [← hX]; simp
  have b1 : bytesOf (X.take 32) = some a := by rw [h2, bytesOf_map]
  have b2 : bytesOf ((X.drop 32).take 12) = some b := by rw [h3, bytesOf_map]
  rw [hX, call_fn (by rfl) (by simp)]
  simp (disch := omega) [h1, b1, b2, h5, h6, if_pos]

theorem texts_ev' (k : Nat) (M : Mem) (a b : List UInt8) (c0 c1 : UInt8) (ha : a.length = 32) (hb : b.length = 12) :
    callFn SP (k + 1) 21 [.agg (a.map byteAV ++ (b.map byteAV ++ [byteAV c0, byteAV c1]))] M = some (.tuple [.str (a.take (32 - min c0.toNat 32)), .str (b.take (12 - min c1.toNat 12))], [], M) := by
  obtain ⟨X, hX⟩ : ∃ X, a.map byteAV ++ (b.map byteAV ++ [byteAV c0, byteAV c1]) = X := ⟨_, rfl⟩
  have h1 : X.length = 46 := by rw [← hX]; simp [ha, hb]
  have g0 : X[44]? = some (byteAV c0) := by
    rw [← hX, List.getElem?_append_right (by simp [ha]), List.getElem?_append_right (by simp [ha, hb])]
    simp [ha, hb]
  have g1 : X[45]? = some (byteAV c1) := by
    rw [← hX, List.getElem?_append_right (by simp [ha]), List.getElem?_append_right (by simp [ha, hb])]
    simp [ha, hb]
  have g0' : ∀ h : 44 < X.length, X[44] = byteAV c0 := fun h => by rw [List.getElem?_eq_getElem h] at g0; exact Option.some.inj g0
  have g1' : ∀ h : 45 < X.length, X[45] = byteAV c1 := fun h => by rw [List.getElem?_eq_getElem h] at g1; exact Option.some.inj g1
  have h5 : AV.unders 0 X = true := by rw [← hX]; simp [AV.unders]
  have h6 : AV.noNils X = true := by rw [← hX]; simp [AV.noNils]
  have tk1 : ∀ n, n ≤ 32 → X.take n = (a.take n).map byteAV := fun n hn => by
    rw [← hX, List.take_append_of_le_length (by simp [ha]; omega), List.map_take]
  have tk2 : ∀ n, n ≤ 12 → (X.drop 32).take n = (b.take n).map byteAV := fun n hn => by
    rw [← hX, List.drop_left' (by simp [ha]), List.take_append_of_le_length (by simp [hb]; omega), List.map_take]
  have e1 : amin false (byteAV c0) (byteAV 32) = some (.int .u8 (min c0.toNat 32 : Nat)) := amin_nat .u8 c0.toNat 32
  have e2 : amin false (byteAV c1) (byteAV 12) = some (.int .u8 (min c1.toNat 12 : Nat)) := amin_nat .u8 c1.toNat 12
  have s1 : abin .sub (byteAV 32) (.int .u8 (min c0.toNat 32 : Nat)) = some (.int .u8 (32 - min c0.toNat 32 : Nat)) := by
    show abin .sub (.int .u8 32) (.int .u8 (min c0.toNat 32 : Nat)) = _
    rw [ab_sub, w_u8]; congr 2; omega
  have s2 : abin .sub (byteAV 12) (.int .u8 (min c1.toNat 12 : Nat)) = some (.int .u8 (12 - min c1.toNat 12 : Nat)) := by
    show abin .sub (.int .u8 12) (.int .u8 (min c1.toNat 12 : Nat)) = _
    rw [ab_sub, w_u8]; congr 2; omega
  obtain ⟨n1, hn1⟩ : ∃ n, 32 - min c0.toNat 32 = n := ⟨_, rfl⟩
  obtain ⟨n2, hn2⟩ : ∃ n, 12 - min c1.toNat 12 = n := ⟨_, rfl⟩
  have l1 : n1 ≤ 32 := by omega
  have l2 : n2 ≤ 12 := by omega
  rw [hn1] at s1 ⊢
  rw [hn2] at s2 ⊢
  have b1 : bytesOf (X.take n1) = some (a.take n1) := by rw [tk1 n1 l1, bytesOf_map]
  have b2 : bytesOf ((X.drop 32).take n2) = some (b.take n2) := by rw [tk2 n2 l2, bytesOf_map]
  have d1 : n1 ≤ 46 := by omega
  have d2 : 32 + n2 ≤ 46 := by omega
  rw [hX, call_fn (by rfl) (by simp)]
  simp (disch := omega) [h1, g0, g1, g0', g1', e1, e2, s1, s2, b1, b2, h5, h6, l1, l2, d1, d2, if_pos]
end Go.Proofs.Ytpaagjjgmlmngaa
