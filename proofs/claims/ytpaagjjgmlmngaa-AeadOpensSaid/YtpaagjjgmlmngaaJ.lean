/-
  AEAD, part J: what each function comes to, here: the tag, what is sealed.
-/
import Derived.Test.YtpaagjjgmlmngaaH
import Derived.Test.YtpaagjjgmlmngaaLibPM
import Derived.Test.YtpaagjjgmlmngaaLibCB
import Derived.Test.YtpaagjjgmlmngaaDetV
set_option maxRecDepth 100000
set_option maxHeartbeats 4000000
set_option linter.unusedSimpArgs false
set_option linter.unusedVariables false
namespace Go.Proofs.Ytpaagjjgmlmngaa
open Go.Det Go.Det.P Go.Det.PR

def dd (a b : List UInt8) : Nat → UInt8
  | 0 => 0
  | i + 1 => dd a b i ||| (nth a i ^^^ nth b i)

theorem dd_zero (a b : List UInt8) : ∀ n, dd a b n = 0 ↔ ∀ k, k < n → nth a k = nth b k
  | 0 => by simp [dd]
  | n + 1 => by
    rw [dd, UInt8.or_eq_zero_iff, dd_zero a b n, UInt8.xor_eq_zero_iff]
    constructor
    · rintro ⟨h1, h2⟩ k hk
      by_cases h : k = n
      · rw [h]; exact h2
      · exact h1 k (by omega)
    · intro h
      exact ⟨fun k hk => h k (by omega), h n (by omega)⟩

theorem l15 (C : Det.Calls) (M : Mem) (a b : List UInt8) (N : Nat) (ha : a.length = N) (hb : b.length = N) (hN : N < 2 ^ 48) (j : Nat) : ∀ (i n : Nat), i + j = N → j < n →
    fgt a15_0 (rnd0 (some (e15_0 (.str a) (.str b) (byteAV (dd a b i)) (.int .i64 N) (.int .i64 i), mk [] :: M)) k15_0 C s15_b0 n) = some (.exit 0, x15_0 (byteAV (dd a b N)), mk [] :: M) := by
  induction j with
  | zero =>
    intro i n h hn
    obtain rfl : i = N := by omega
    rw [rnd0_some]
    conv => lhs; arg 2; arg 1; rw [s15_b0]
    simp
  | succ j ih0 =>
    intro i n h hn
    obtain ⟨n, rfl⟩ : ∃ m, n = m + 1 := ⟨n - 1, by omega⟩
    have hi : i < N := by omega
    have ih := ih0 (i + 1) n (by omega) (by omega)
    rw [show dd a b (i + 1) = dd a b i ||| (nth a i ^^^ nth b i) from rfl] at ih
    rw [rnd0_some]
    conv => lhs; arg 2; arg 1; rw [s15_b0]
    simpa (disch := omega) [hi, byteAt_lt, IntWalk.i64_in] using ih

theorem equal_ev (k : Nat) (M : Mem) (a b : List UInt8) (hN : a.length < 2 ^ 48) : callFn SP (k + 1) 15 [.str a, .str b] M = some (.bool (decide (a = b)), [], M) := by
  rw [call_fn (by rfl) (by simp)]
  by_cases h : a.length = b.length
  · have e3 : (a.length : Int) = b.length := by omega
    have hl := l15 (callFn SP k) M a b b.length h rfl (by omega) b.length 0 (b.length + 1) (Nat.zero_add _) (Nat.lt_succ_self _)
    rw [show dd a b 0 = 0 from rfl] at hl
    have hd : (dd a b b.length = 0) = (a = b) := by
      rw [dd_zero]
      refine propext ⟨fun h1 => nth_ext h fun i hi => h1 i (by omega), fun h1 => by rw [h1]; simp⟩
    simp (disch := omega) [e3]
    rw [ev_loop (b.length + 1) (by simp) hl (by omega)]
    simp [hd]
  · have e3 : (a.length : Int) ≠ b.length := by omega
    have hne : a ≠ b := fun h0 => h (by rw [h0])
    simp (disch := omega) [e3, hne]


/-! ### what is known of the callees -/
abbrev sumC (k M key s hs) := Go.Det.P.sum_ev (SP := SP) (n16 := 16) (n19 := 19) (n29 := 29) (n30 := 30) (n31 := 31) (n32 := 32) (n40 := 40) (n41 := 41) (n42 := 42) (n53 := 53) (n54 := 54) rfl rfl rfl rfl rfl rfl rfl rfl rfl rfl rfl k M key s hs
abbrev rsumC (k M key s hs) := refsum_ev (SP := SP) (n17 := 17) (n20 := 20) (n33 := 33) (n34 := 34) (n43 := 43) (n55 := 55) rfl rfl rfl rfl rfl rfl k M key s hs
abbrev blkC (k M key nonce c) := C.block_ev (SP := SP) (n10 := 62) (n14 := 46) (n19 := 70) (n21 := 44) (n22 := 45) (n27 := 40) (n28 := 56) (n29 := 42) (n31 := 53) (n32 := 54) rfl rfl rfl rfl rfl rfl rfl rfl rfl rfl k M key nonce c
abbrev cryC (k M key nonce c s hs) := C.crypt_ev (SP := SP) (n10 := 62) (n16 := 36) (n18 := 28) (n19 := 70) (n21 := 44) (n22 := 45) (n27 := 40) (n28 := 56) (n29 := 42) (n31 := 53) (n32 := 54) rfl rfl rfl rfl rfl rfl rfl rfl rfl rfl rfl k M key nonce c s hs
abbrev rblkC (k M key nonce c) := C.refblock_ev (SP := SP) (n12 := 69) (n15 := 49) (n20 := 76) (n23 := 58) (n24 := 59) (n25 := 60) rfl rfl rfl rfl rfl rfl k M key nonce c
abbrev rcryC (k M key nonce c s hs) := C.refcrypt_ev (SP := SP) (n12 := 69) (n15 := 49) (n17 := 38) (n20 := 76) (n23 := 58) (n24 := 59) (n25 := 60) (n26 := 50) (n30 := 61) rfl rfl rfl rfl rfl rfl rfl rfl rfl k M key nonce c s hs
abbrev xorC (k M a b h) := W.xor_ev (SP := SP) (n10 := 28) rfl k M a b h

theorem shape_ev (k : Nat) (M : Mem) (key nonce : List UInt8) : callFn SP (k + 1) 35 [.str key, .str nonce] M = some (.bool (decide (key.length = 32 ∧ nonce.length = 12)), [], M) := by
  rw [call_fn (by rfl) (by simp)]
  by_cases h1 : key.length = 32 <;> by_cases h2 : nonce.length = 12
  · simp (disch := omega) [h1, h2]
  · have : (nonce.length : Int) ≠ 12 := by omega
    simp (disch := omega) [h1, h2, this]
  · have : (key.length : Int) ≠ 32 := by omega
    simp (disch := omega) [h1, h2, this]
  · have : (key.length : Int) ≠ 32 := by omega
    simp (disch := omega) [h1, h2, this]

/-! ### noughts up to a multiple of sixteen -/
def pn (n : Nat) : Nat := (16 - n % 16) % 16
def padT (s : List UInt8) : List UInt8 := s ++ List.replicate (pn s.length) 0
theorem padT_len (s : List UInt8) : (padT s).length = s.length + pn s.length := by simp [padT]
theorem pn_lt (n : Nat) : pn n < 16 := Nat.mod_lt _ (by omega)
theorem pn_zero (n : Nat) (h : n % 16 = 0) : pn n = 0 := by unfold pn; omega
theorem pn_succ (n : Nat) (h : n % 16 ≠ 0) : pn n = pn (n + 1) + 1 := by unfold pn; omega

theorem pad_ev (k : Nat) (M : Mem) (s : List UInt8) (hs : s.length < 2 ^ 48) : callFn SP (k + 2) 47 [.str s] M = some (.str (padT s), [], M) := by
  have hp := pn_lt s.length
  have hr := fun k M => rep_ev (SP := SP) (n := 57) rfl rfl k M 0 (pn s.length : Int) (by omega) (by omega)
  obtain ⟨m, hm⟩ : ∃ m, s.length % 16 = m := ⟨_, rfl⟩
  obtain ⟨q, hq⟩ : ∃ q, 16 - m = q := ⟨_, rfl⟩
  have e1 : (s.length : Int).tmod 16 = (m : Int) := by rw [← hm]; rfl
  have e3 : (q : Int).tmod 16 = (pn s.length : Int) := by rw [← hq, ← hm]; rfl
  have w : IntKind.wrap .i64 (16 - (m : Int)) = (q : Int) := by rw [IntWalk.i64_in _ (by omega)]; omega
  simp only [Int.toNat_natCast] at hr
  unfold padT
  generalize pn s.length = p at *
  rw [call_fn (by rfl) (by simp)]
  simp (disch := omega) [e1, w, e3, hr, if_pos]

/-! ### lengths -/
def le8 (n : Nat) : List UInt8 := ob n 8
theorem le8_len (n : Nat) : (le8 n).length = 8 := ob_len n 8
theorem le8_tx (n : Nat) (h : n < 2 ^ 64) : W.tx false [BitVec.ofNat 32 n, BitVec.ofNat 32 (n / 2 ^ 32)] = le8 n := by
  refine le_inj _ _ (by rw [W.tx_len, le8_len]; rfl) ?_
  rw [le8, ob_le]
  have e : W.tx false [BitVec.ofNat 32 n, BitVec.ofNat 32 (n / 2 ^ 32)] = W.by4 false (BitVec.ofNat 32 n) ++ (W.by4 false (BitVec.ofNat 32 (n / 2 ^ 32)) ++ []) := rfl
  rw [e, le_by4, le_by4]
  simp only [BitVec.toNat_ofNat, le]
  omega
theorem le8_app (a b : List (BitVec 32)) : W.tx false (a ++ b) = W.tx false a ++ W.tx false b := by
  induction a with
  | nil => rfl
  | cons x a ih => simp only [List.cons_append]; show W.by4 false x ++ W.tx false (a ++ b) = (W.by4 false x ++ W.tx false a) ++ W.tx false b; rw [ih, List.append_assoc]

/-- The words of a length. -/
def lw2 (n : Nat) : List (BitVec 32) := [BitVec.ofNat 32 n, BitVec.ofNat 32 (n / 2 ^ 32)]
theorem lo32 (n : Nat) : BitVec.setWidth 32 (BitVec.ofNat 64 n) = BitVec.ofNat 32 n := by
  apply BitVec.eq_of_toNat_eq
  simp only [BitVec.toNat_setWidth, BitVec.toNat_ofNat]
  omega
theorem hi32 (n : Nat) (h : n < 2 ^ 64) : BitVec.setWidth 32 (BitVec.ofNat 64 n >>> 32) = BitVec.ofNat 32 (n / 2 ^ 32) := by
  apply BitVec.eq_of_toNat_eq
  simp only [BitVec.toNat_setWidth, BitVec.toNat_ushiftRight, BitVec.toNat_ofNat, Nat.shiftRight_eq_div_pow]
  omega

theorem l48 (C : Det.Calls) (M : Mem) (d id : Nat) (a b : List UInt8) (rw_ fl : Bool) (hd : d < M.length) (hg : ∀ o, get M ⟨d, id, 2, o⟩ = some (.cells [.str a, .str b] rw_ fl)) (ha : a.length < 2 ^ 48) (hb : b.length < 2 ^ 48) (n : Nat) :
    fgt a48_0 (rnd0 (some (e48_0 (.slice none 0 0) (.slice (some ⟨d, id, 2, 0⟩) 2 1) (.int .i64 2) (.int .i64 0), mk [] :: M)) k48_0 C s48_b0 (n + 3)) =
      some (.exit 0, x48_0 (.slice (some ⟨M.length, 24028, 4, 0⟩) 4 1), mk [(24028, .cells ((lw2 a.length ++ lw2 b.length).map u32) true true)] :: M) := by
  have hn1 : d ≠ M.length := by omega
  have w1 : IntKind.wrap .i64 1 = 1 := rfl
  have w2 : IntKind.wrap .i64 2 = 2 := rfl
  have a1 := lo32 a.length
  have a2 := hi32 a.length (by omega)
  have b1 := lo32 b.length
  have b2 := hi32 b.length (by omega)
  simp only [Nat.reducePow] at a2 b2
  rw [rnd0_some]
  conv => lhs; arg 2; arg 1; rw [s48_b0]
  simp (disch := omega) [get_low, hd, hg, hn1, w1, w2, a1, a2, b1, b2]
  rw [rnd0_some]
  conv => lhs; arg 2; arg 1; rw [s48_b0]
  simp (disch := omega) [get_low, hd, hg, hn1, w1, w2, a1, a2, b1, b2]
  rw [rnd0_some]
  conv => lhs; arg 2; arg 1; rw [s48_b0]
  simp (disch := omega) [get_low, hd, hg, hn1, w1, w2, lw2]

theorem lengths_ev (k : Nat) (M : Mem) (d id : Nat) (a b : List UInt8) (rw_ fl : Bool) (hd : d < M.length) (hg : ∀ o, get M ⟨d, id, 2, o⟩ = some (.cells [.str a, .str b] rw_ fl)) (ha : a.length < 2 ^ 48) (hb : b.length < 2 ^ 48) :
    callFn SP (k + 2) 48 [.slice (some ⟨d, id, 2, 0⟩) 2 1] M = some (.str (le8 a.length ++ le8 b.length), [], M) := by
  have hl := l48 (callFn SP (k + 1)) M d id a b rw_ fl hd hg ha hb 0
  have hn1 : d ≠ M.length := by omega
  have e : W.tx false (lw2 a.length ++ lw2 b.length) = le8 a.length ++ le8 b.length := by
    rw [le8_app, ← le8_tx a.length (by omega), ← le8_tx b.length (by omega)]; rfl
  have h4 : (lw2 a.length ++ lw2 b.length).length = 4 := rfl
  generalize lw2 a.length ++ lw2 b.length = L at *
  rw [call_fn (by rfl) (by simp)]
  simp (disch := omega) []
  rw [ev_loop 3 (by simp [hn1]) hl (by omega)]
  simp (disch := omega) []
  rw [W.fromlittle_ev (SP := SP) (n21 := 42) rfl]
  case hv => exact WS.top' (l := L) rfl (by simp) h4.symm h4.symm
  case hN => omega
  simp (disch := omega) [e]

theorem lengths_top (k : Nat) (M : Mem) (d id : Nat) (a b : List UInt8) (rw_ fl : Bool) (l : List (Nat × Con)) (hdm : d = M.length) (ha : a.length < 2 ^ 48) (hb : b.length < 2 ^ 48) :
    callFn SP (k + 2) 48 [.slice (some ⟨d, id, 2, 0⟩) 2 1] (mk ((id, .cells [.str a, .str b] rw_ fl) :: l) :: M) = some (.str (le8 a.length ++ le8 b.length), [], mk ((id, .cells [.str a, .str b] rw_ fl) :: l) :: M) := by
  subst hdm
  exact lengths_ev k _ M.length id a b rw_ fl (by simp) (P.top_get M id 2 _ l rfl) ha hb

/-! ### the tag -/
def tgT (wit sealed_ : List UInt8) : List UInt8 := padT wit ++ (padT sealed_ ++ (le8 wit.length ++ le8 sealed_.length))
theorem tgT_len (a b : List UInt8) : (tgT a b).length = (padT a).length + ((padT b).length + 16) := by simp [tgT, le8_len]
def tg (key nonce wit sealed_ : List UInt8) : List UInt8 := (sumR ((C.stream key nonce 0#32).take 32) (tgT wit sealed_)).1

theorem tag_ev (k : Nat) (M : Mem) (key nonce a b : List UInt8) (hk : key.length = 32) (hn : nonce.length = 12) (ha : a.length < 2 ^ 40) (hb : b.length < 2 ^ 40) : callFn SP (k + 6) 37 [.str key, .str nonce, .str a, .str b] M = some (.str (tg key nonce a b), [], M) := by
  have h1 := fun k M => blkC k M key nonce 0#32
  have e1 : C.blockR key nonce 0#32 = (C.stream key nonce 0#32, 0) := if_pos ⟨hk, hn⟩
  rw [e1] at h1
  have hs := C.stream_len key nonce 0#32
  have pa := padT_len a
  have pb := padT_len b
  have qa := pn_lt a.length
  have qb := pn_lt b.length
  have la := le8_len a.length
  have lb := le8_len b.length
  have h2 := fun k M => pad_ev k M a (by omega)
  have h3 := fun k M => pad_ev k M b (by omega)
  have h4 := fun k M d id rw_ fl l hdm => lengths_top k M d id a b rw_ fl l hdm (by omega) (by omega)
  have h5 := fun k M key => sumC k M key (tgT a b) (by rw [tgT_len]; omega)
  unfold tg
  unfold tgT at h5 ⊢
  generalize C.stream key nonce 0#32 = S at *
  generalize padT a = PA at *
  generalize padT b = PB at *
  obtain ⟨LA, hLA⟩ : ∃ LA, le8 a.length = LA := ⟨_, rfl⟩
  obtain ⟨LB, hLB⟩ : ∃ LB, le8 b.length = LB := ⟨_, rfl⟩
  rw [hLA] at la h4 h5 ⊢
  rw [hLB] at lb h4 h5 ⊢
  rw [call_fn (by rfl) (by simp)]
  simp (disch := first | omega | (simp; done) | (simp; omega)) [h1, h2, h3, h4, h5, hs, la, lb, pa, pb, if_pos]
end Go.Proofs.Ytpaagjjgmlmngaa
