/-
  LIB, poly: the least number, the number of bytes, the tag's bytes.
-/
import Derived.Test.YtpaagjjgmlmngaaLibP
set_option maxRecDepth 100000
set_option maxHeartbeats 4000000
set_option linter.unusedSimpArgs false
set_option linter.unusedVariables false
namespace Go.Det.P
open Go.Det

def us0 (a : V5) : BitVec 64 := a.a0 + 5#64
def us1 (a : V5) : BitVec 64 := a.a1 + us0 a >>> 26
def us2 (a : V5) : BitVec 64 := a.a2 + us1 a >>> 26
def us3 (a : V5) : BitVec 64 := a.a3 + us2 a >>> 26
def us4 (a : V5) : BitVec 64 := a.a4 + us3 a >>> 26
/-- The number itself, of one that is carried. -/
def lw (a : V5) : V5 := if us4 a >>> 26 = 0#64 then a else ⟨us0 a &&& 67108863#64, us1 a &&& 67108863#64, us2 a &&& 67108863#64, us3 a &&& 67108863#64, us4 a &&& 67108863#64⟩

theorem l31 (C : Det.Calls) (M : Mem) (d id : Nat) (hd : d < M.length) (a : V5) (n : Nat) :
    fgt a31_0 (rnd0 (some (e31_0 (.ptr (some ⟨d, id, 5, 0⟩)) (.ptr (some ⟨M.length, 8012, 5, 0⟩)) (.int .i64 0), mk [(8012, .cells [u64 (us0 a), u64 a.a1, u64 a.a2, u64 a.a3, u64 a.a4] true true)] :: M)) k31_0 C s31_b0 (n + 4)) =
      some (.exit 0, x31_0 (.ptr (some ⟨d, id, 5, 0⟩)) (.ptr (some ⟨M.length, 8012, 5, 0⟩)), mk [(8012, .cells [u64 (us0 a &&& 67108863#64), u64 (us1 a &&& 67108863#64), u64 (us2 a &&& 67108863#64), u64 (us3 a &&& 67108863#64), u64 (us4 a)] true true)] :: M) := by
  have hn1 : d ≠ M.length := by omega
  have w1 : IntKind.wrap .i64 1 = 1 := rfl
  have w2 : IntKind.wrap .i64 2 = 2 := rfl
  have w3 : IntKind.wrap .i64 3 = 3 := rfl
  have w4 : IntKind.wrap .i64 4 = 4 := rfl
  rw [rnd0_some]
  conv => lhs; arg 2; arg 1; rw [s31_b0]
  simp (disch := omega) [w1, w2, w3, w4, if_pos, hn1]
  rw [rnd0_some]
  conv => lhs; arg 2; arg 1; rw [s31_b0]
  simp (disch := omega) [w1, w2, w3, w4, if_pos, hn1]
  rw [rnd0_some]
  conv => lhs; arg 2; arg 1; rw [s31_b0]
  simp (disch := omega) [w1, w2, w3, w4, if_pos, hn1]
  rw [rnd0_some]
  conv => lhs; arg 2; arg 1; rw [s31_b0]
  simp (disch := omega) [w1, w2, w3, w4, if_pos, hn1]
  rw [rnd0_some]
  conv => lhs; arg 2; arg 1; rw [s31_b0]
  simp (disch := omega) [w1, w2, w3, w4, if_pos, hn1]
  rfl

theorem least_ev {SP : SProg} {n31 n41 : Nat} (h41 : SP.fn n41 = some s41) (h31 : SP.fn n31 = some (s31 n41)) (k : Nat) (M : Mem) (d id : Nat) (a : V5) (fl : Bool) (hd : d < M.length) (hg : ∀ o, get M ⟨d, id, 5, o⟩ = some (.cells a.cells true fl)) :
    callFn SP (k + 2) n31 [.ptr (some ⟨d, id, 5, 0⟩)] M = some (.undef, [], put M d id (.cells (lw (cv (cv a))).cells true fl)) := by
  have hn1 : d ≠ M.length := by omega
  have c1 := carry_ev h41 k (mk [] :: M) d id a fl (by simp; omega) (fun o => by rw [get_low (by exact hd)]; exact hg o)
  rw [put_low hd] at c1
  have c2 := carry_ev h41 k (mk [] :: put M d id (.cells (cv a).cells true fl)) d id (cv a) fl (by rw [List.length_cons, put_length]; omega) (fun o => by rw [get_sput hd]; exact if_pos rfl)
  rw [put_sput hd] at c2
  generalize cv (cv a) = B at *
  have hg' : ∀ o, get (put M d id (.cells B.cells true fl)) ⟨d, id, 5, o⟩ = some (.cells B.cells true fl) := fun o => by rw [get_put hd]; exact if_pos rfl
  have hP : ∀ X, put (put M d id (.cells B.cells true fl)) d id X = put M d id X := fun X => put_put _ _ _ _ _
  have hML : M.length = (put M d id (.cells B.cells true fl)).length := (put_length ..).symm
  rw [lw]
  rw [call_fn (h31.trans rfl) (by simp)]
  obtain ⟨M', hM'⟩ : ∃ M', put M d id (.cells B.cells true fl) = M' := ⟨_, rfl⟩
  rw [hM'] at c2 hg' hML
  have hP' : ∀ X, put M' d id X = put M d id X := fun X => by rw [← hM']; exact hP X
  have hd' : d < M'.length := by rw [← hML]; exact hd
  have hn2 : d ≠ M'.length := by omega
  have q0 := l31 (callFn SP (k + 1)) M' d id hd' B 1
  have e0 : B.a0 + 5#64 = us0 B := rfl
  by_cases h0 : us4 B >>> 26 = 0#64
  · rw [if_pos h0, hM']
    simp only [V5.cells] at c1 c2 hg' ⊢
    simp (disch := omega) [hn2, hML, c1, c2, get_low, put_low, get_sput, put_sput, hd', hg', hP', e0]
    rw [ev_loop 5 (by simp [hn2]) q0 (by omega)]
    simp (disch := omega) [hn2, h0, get_low, put_low, get_sput, put_sput, hd', hg', hP']
  · rw [if_neg h0]
    simp only [V5.cells] at c1 c2 hg' ⊢
    simp (disch := omega) [hn2, hML, c1, c2, get_low, put_low, get_sput, put_sput, hd', hg', hP', e0]
    rw [ev_loop 5 (by simp [hn2]) q0 (by omega)]
    simp (disch := omega) [hn2, h0, get_low, put_low, get_sput, put_sput, hd', hg', hP']

/-! ### the number of sixteen bytes -/
def ofV (s : List UInt8) (ab : BitVec 64) : V5 :=
  ⟨(W.wat false s 0).setWidth 64 &&& 67108863#64, ((W.wat false s 0).setWidth 64 >>> 26 ||| (W.wat false s 1).setWidth 64 <<< 6) &&& 67108863#64,
    ((W.wat false s 1).setWidth 64 >>> 20 ||| (W.wat false s 2).setWidth 64 <<< 12) &&& 67108863#64, ((W.wat false s 2).setWidth 64 >>> 14 ||| (W.wat false s 3).setWidth 64 <<< 18) &&& 67108863#64,
    (W.wat false s 3).setWidth 64 >>> 8 ||| ab <<< 24⟩

theorem l29 (C : Det.Calls) (M : Mem) (ab : BitVec 64) (x0 x1 x2 x3 : BitVec 32) (n : Nat) :
    fgt a29_0 (rnd0 (some (e29_0 (u64 ab) (.ptr (some ⟨M.length, 0, 5, 0⟩)) (.slice (some ⟨M.length, 4004, 4, 0⟩) 4 1) (.ptr (some ⟨M.length, 8000, 4, 0⟩)) (.int .i64 0), mk [(0, .cells [u64 0#64, u64 0#64, u64 0#64, u64 0#64, u64 0#64] true true), (4004, .cells [u32 x0, u32 x1, u32 x2, u32 x3] true true), (8000, .cells [u64 0#64, u64 0#64, u64 0#64, u64 0#64] true true)] :: M)) k29_0 C s29_b0 (n + 4)) =
      some (.exit 0, x29_0 (u64 ab) (.ptr (some ⟨M.length, 0, 5, 0⟩)) (.ptr (some ⟨M.length, 8000, 4, 0⟩)), mk [(0, .cells [u64 0#64, u64 0#64, u64 0#64, u64 0#64, u64 0#64] true true), (8000, .cells [u64 (x0.setWidth 64), u64 (x1.setWidth 64), u64 (x2.setWidth 64), u64 (x3.setWidth 64)] true true)] :: M) := by
  have w1 : IntKind.wrap .i64 1 = 1 := rfl
  have w2 : IntKind.wrap .i64 2 = 2 := rfl
  have w3 : IntKind.wrap .i64 3 = 3 := rfl
  have w4 : IntKind.wrap .i64 4 = 4 := rfl
  rw [rnd0_some]
  conv => lhs; arg 2; arg 1; rw [s29_b0]
  simp (disch := omega) [w1, w2, w3, w4, if_pos]
  rw [rnd0_some]
  conv => lhs; arg 2; arg 1; rw [s29_b0]
  simp (disch := omega) [w1, w2, w3, w4, if_pos]
  rw [rnd0_some]
  conv => lhs; arg 2; arg 1; rw [s29_b0]
  simp (disch := omega) [w1, w2, w3, w4, if_pos]
  rw [rnd0_some]
  conv => lhs; arg 2; arg 1; rw [s29_b0]
  simp (disch := omega) [w1, w2, w3, w4, if_pos]
  rw [rnd0_some]
  conv => lhs; arg 2; arg 1; rw [s29_b0]
  simp (disch := omega) [w1, w2, w3, w4, if_pos]

theorem of_ev {SP : SProg} {n29 n40 n53 n54 : Nat} (h29 : SP.fn n29 = some (s29 n40)) (h40 : SP.fn n40 = some (W.s12 n53 n54)) (h53 : SP.fn n53 = some W.s25) (h54 : SP.fn n54 = some W.s26) (k : Nat) (M : Mem) (s : List UInt8) (hs : s.length = 16) (ab : BitVec 64) :
    callFn SP (k + 4) n29 [.str s, u64 ab] M = some (.agg (ofV s ab).cells, [], M) := by
  have b1 := fun k M => W.little_ev h40 h53 h54 k M s 4 (by omega) (by omega)
  rw [show tab (W.wat false s) 4 = [W.wat false s 0, W.wat false s 1, W.wat false s 2, W.wat false s 3] from rfl] at b1
  have w1 : IntKind.wrap .i64 1 = 1 := rfl
  have w2 : IntKind.wrap .i64 2 = 2 := rfl
  have w3 : IntKind.wrap .i64 3 = 3 := rfl
  have w4 : IntKind.wrap .i64 4 = 4 := rfl
  rw [ofV]
  generalize W.wat false s 0 = x0 at *
  generalize W.wat false s 1 = x1 at *
  generalize W.wat false s 2 = x2 at *
  generalize W.wat false s 3 = x3 at *
  rw [call_fn (h29.trans rfl) (by simp)]
  simp (disch := omega) [b1]
  rw [ev_loop 5 (by simp) (l29 (callFn SP (k + 3)) M ab x0 x1 x2 x3 1) (by omega)]
  simp (disch := omega) [V5.cells]

/-! ### the tag's bytes -/
def pw0 (a : V5) : BitVec 64 := a.a0 ||| a.a1 <<< 26
def pw1 (a : V5) : BitVec 64 := a.a1 >>> 6 ||| a.a2 <<< 20
def pw2 (a : V5) : BitVec 64 := a.a2 >>> 12 ||| a.a3 <<< 14
def pw3 (a : V5) : BitVec 64 := a.a3 >>> 18 ||| a.a4 <<< 8
def pc0 (a : V5) (l0 l1 l2 l3 : BitVec 32) : BitVec 64 := (pw0 a &&& 4294967295#64) + l0.setWidth 64
def pc1 (a : V5) (l0 l1 l2 l3 : BitVec 32) : BitVec 64 := pc0 a l0 l1 l2 l3 >>> 32 + ((pw1 a &&& 4294967295#64) + l1.setWidth 64)
def pc2 (a : V5) (l0 l1 l2 l3 : BitVec 32) : BitVec 64 := pc1 a l0 l1 l2 l3 >>> 32 + ((pw2 a &&& 4294967295#64) + l2.setWidth 64)
def pc3 (a : V5) (l0 l1 l2 l3 : BitVec 32) : BitVec 64 := pc2 a l0 l1 l2 l3 >>> 32 + ((pw3 a &&& 4294967295#64) + l3.setWidth 64)
def pws (a : V5) (l0 l1 l2 l3 : BitVec 32) : List (BitVec 32) := [(pc0 a l0 l1 l2 l3).setWidth 32, (pc1 a l0 l1 l2 l3).setWidth 32, (pc2 a l0 l1 l2 l3).setWidth 32, (pc3 a l0 l1 l2 l3).setWidth 32]
/-- The tag's bytes. -/
def pt (a : V5) (s : List UInt8) : List UInt8 := W.tx false (pws a (W.wat false s 0) (W.wat false s 1) (W.wat false s 2) (W.wat false s 3))

theorem l32 (C : Det.Calls) (M : Mem) (a : V5) (l0 l1 l2 l3 : BitVec 32) (n : Nat) :
    fgt a32_0 (rnd0 (some (e32_0 (.slice (some ⟨M.length, 4004, 4, 0⟩) 4 1) (.ptr (some ⟨M.length, 8112, 4, 0⟩)) (.slice (some ⟨M.length, 12000, 4, 0⟩) 4 1) (u64 0#64) (.int .i64 0), mk [(4004, .cells [u32 l0, u32 l1, u32 l2, u32 l3] true true), (8112, .cells [u64 (pw0 a), u64 (pw1 a), u64 (pw2 a), u64 (pw3 a)] true true), (12000, .cells [u32 0#32, u32 0#32, u32 0#32, u32 0#32] true true)] :: M)) k32_0 C s32_b0 (n + 4)) =
      some (.exit 0, x32_0 (.slice (some ⟨M.length, 12000, 4, 0⟩) 4 1), mk [(12000, .cells ((pws a l0 l1 l2 l3).map u32) true true)] :: M) := by
  have w1 : IntKind.wrap .i64 1 = 1 := rfl
  have w2 : IntKind.wrap .i64 2 = 2 := rfl
  have w3 : IntKind.wrap .i64 3 = 3 := rfl
  have w4 : IntKind.wrap .i64 4 = 4 := rfl
  have e0 : (pw0 a &&& 4294967295#64) + l0.setWidth 64 = pc0 a l0 l1 l2 l3 := rfl
  have e1 : pc0 a l0 l1 l2 l3 >>> 32 + ((pw1 a &&& 4294967295#64) + l1.setWidth 64) = pc1 a l0 l1 l2 l3 := rfl
  have e2 : pc1 a l0 l1 l2 l3 >>> 32 + ((pw2 a &&& 4294967295#64) + l2.setWidth 64) = pc2 a l0 l1 l2 l3 := rfl
  have e3 : pc2 a l0 l1 l2 l3 >>> 32 + ((pw3 a &&& 4294967295#64) + l3.setWidth 64) = pc3 a l0 l1 l2 l3 := rfl
  rw [pws]
  rw [rnd0_some]
  conv => lhs; arg 2; arg 1; rw [s32_b0]
  simp (disch := omega) [w1, w2, w3, w4, if_pos, e0, e1, e2, e3]
  rw [rnd0_some]
  conv => lhs; arg 2; arg 1; rw [s32_b0]
  simp (disch := omega) [w1, w2, w3, w4, if_pos, e0, e1, e2, e3]
  rw [rnd0_some]
  conv => lhs; arg 2; arg 1; rw [s32_b0]
  simp (disch := omega) [w1, w2, w3, w4, if_pos, e0, e1, e2, e3]
  rw [rnd0_some]
  conv => lhs; arg 2; arg 1; rw [s32_b0]
  simp (disch := omega) [w1, w2, w3, w4, if_pos, e0, e1, e2, e3]
  rw [rnd0_some]
  conv => lhs; arg 2; arg 1; rw [s32_b0]
  simp (disch := omega) [w1, w2, w3, w4, if_pos, e0, e1, e2, e3]

theorem plus_ev {SP : SProg} {n32 n40 n42 n53 n54 : Nat} (h32 : SP.fn n32 = some (s32 n40 n42)) (h40 : SP.fn n40 = some (W.s12 n53 n54)) (h53 : SP.fn n53 = some W.s25) (h54 : SP.fn n54 = some W.s26) (h42 : SP.fn n42 = some W.s21) (k : Nat) (M : Mem) (a : V5) (s : List UInt8) (hs : s.length = 16) :
    callFn SP (k + 4) n32 [.agg a.cells, .str s] M = some (.str (pt a s), [], M) := by
  have b1 := fun k M => W.little_ev h40 h53 h54 k M s 4 (by omega) (by omega)
  rw [show tab (W.wat false s) 4 = [W.wat false s 0, W.wat false s 1, W.wat false s 2, W.wat false s 3] from rfl] at b1
  have q0 := l32 (callFn SP (k + 3)) M a (W.wat false s 0) (W.wat false s 1) (W.wat false s 2) (W.wat false s 3) 1
  rw [pt]
  have hZ : (pws a (W.wat false s 0) (W.wat false s 1) (W.wat false s 2) (W.wat false s 3)).length = 4 := rfl
  generalize pws a (W.wat false s 0) (W.wat false s 1) (W.wat false s 2) (W.wat false s 3) = Z at *
  have e0 : a.a0 ||| a.a1 <<< 26 = pw0 a := rfl
  have e1 : a.a1 >>> 6 ||| a.a2 <<< 20 = pw1 a := rfl
  have e2 : a.a2 >>> 12 ||| a.a3 <<< 14 = pw2 a := rfl
  have e3 : a.a3 >>> 18 ||| a.a4 <<< 8 = pw3 a := rfl
  rw [V5.cells, call_fn (h32.trans rfl) (by simp)]
  simp (disch := omega) [b1, e0, e1, e2, e3]
  rw [ev_loop 5 (by simp) q0 (by omega)]
  simp (disch := omega) [hZ]
  rw [W.fromlittle_ev h42]
  case hv => exact WS.top' (l := Z) rfl (by simp) (by omega) (by omega)
  case hN => omega
  simp (disch := omega) [W.tx_len, hZ]
end Go.Det.P
