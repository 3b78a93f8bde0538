/-
  The record's law SuperGets, evaluated.
-/
import Derived.Test.YtaennaoaoahjmaaDoorB2
import Derived.Test.YtaennaoaoahjmaaDoorL
import Derived.Test.YtaennaoaoahjmaaDoorV4
import Derived.Test.YtaennaoaoahjmaaDoorM2
import Derived.Test.YtaennaoaoahjmaaDoorGM
import Derived.Test.YtaennaoaoahjmaaDoorG
import Derived.Test.YtaennaoaoahjmaaDoorLibSM
import Derived.Test.YtaennaoaoahjmaaDoorDetY
import Derived.Test.YtaennaoaoahjmaaDoorFM
set_option maxRecDepth 100000
set_option linter.unusedSimpArgs false
set_option linter.unusedVariables false
set_option maxHeartbeats 1000000
namespace Go.Proofs.YtaennaoaoahjmaaDoor
open Go.Det

theorem rnum_e (k : Nat) (M : Mem) (n : BitVec 64) : callFn SP (k + 1) 28 [u64 n] M = some (.str (K.be8 n), [], M) := K.refnum_ev (SP := SP) (n21 := 28) rfl k M n
theorem rtext_e (k : Nat) (M : Mem) (s : List UInt8) (hs : s.length < 2 ^ 48) : callFn SP (k + 2) 26 [.str s] M = some (.str (et s), [], M) := K.reftext_ev (SP := SP) (n21 := 28) (n23 := 26) rfl rfl k M s hs

def nums6 (l : List (BitVec 64)) : List UInt8 := (l.map K.be8).flatten
theorem nums6_of (l : List Int) : nums6 (l.map (BitVec.ofInt 64)) = nums l := by simp [nums6, nums, Function.comp_def]

set_option maxHeartbeats 8000000 in
theorem l9a (C : Det.Calls) (M : Mem) (a : Rec) (sa ma : AV) (fa : Bool) (ha : IsRec M a sa ma) (N : Nat) (h1 : a.seats.length = N) (hN : N < 2 ^ 30) (j : Nat) : ∀ (i n z : Nat) (L : List (BitVec 64)), L.length = z → z = 8 + i → i + j = N → j < n →
    fgt a44_0 (rnd0 (some (e44_0 (P0 M 0) (.slice (some ⟨M.length, 28088, z, 0⟩) z 1) (.int .i64 i), mk [(28088, .cells (L.map u64) true true), (0, rCell a sa ma fa)] :: M)) k44_0 C s44_b0 n) =
      some (.exit 0, x44_0 (P0 M 0) (.slice (some ⟨M.length, 28088, z + (N - i), 0⟩) (z + (N - i)) 1), mk [(28088, .cells ((L ++ (a.seats.drop i).map (BitVec.ofInt 64)).map u64) true true), (0, rCell a sa ma fa)] :: M) := by
  have i1 := WS_ids ha.s
  have i2 := WM_ids ha.m
  have n1 := ha.s.len
  rw [h1] at n1
  induction j with
  | zero =>
    intro i n z L hz hzi h hn
    obtain rfl : i = N := by omega
    rw [rnd0_some, List.drop_of_length_le (by omega), Nat.sub_self]
    conv => lhs; arg 2; arg 1; rw [s44_b0]
    simp [P0, rCell, rcells, i1, i2, n1]
  | succ j ih0 =>
    intro i n z L hz hzi h hn
    obtain ⟨n, rfl⟩ : ∃ m, n = m + 1 := ⟨n - 1, by omega⟩
    have hi : i < N := by omega
    have hs1 := ha.s
    obtain ⟨d, id, z2, rw_, fl, r, hvv, hd, hg⟩ := hs1.block (by omega)
    subst hvv
    have ga := map_app_get (AV.int .i64) a.seats r i (by omega)
    have hn1 : d ≠ M.length := by omega
    rw [drop_nth a.seats i (by omega)]
    have ih := ih0 (i + 1) n (z + 1) (L ++ [BitVec.ofInt 64 (nth a.seats i)]) (by simp [hz]) (by omega) (by omega) (by omega)
    rw [show z + 1 + (N - (i + 1)) = z + (N - i) by omega] at ih
    clear ih0 hs1
    rw [List.map_cons, show L ++ BitVec.ofInt 64 (nth a.seats i) :: List.map (BitVec.ofInt 64) (List.drop (i + 1) a.seats) = L ++ [BitVec.ofInt 64 (nth a.seats i)] ++ List.map (BitVec.ofInt 64) (List.drop (i + 1) a.seats) by simp]
    generalize hX : ((L ++ [BitVec.ofInt 64 (nth a.seats i)] ++ List.map (BitVec.ofInt 64) (List.drop (i + 1) a.seats)).map u64) = FIN at *
    clear hX
    generalize nth a.seats i = y at *
    rw [List.map_append, List.map_cons, List.map_nil] at ih
    have hcv : aconv .u64 (.int .i64 y) = some (u64 (BitVec.ofInt 64 y)) := by simp
    have hll : (L.map u64).length = z := by rw [List.length_map, hz]
    generalize L.map u64 = CC at *
    generalize N - i = NI at *
    rw [rnd0_some]
    conv => lhs; arg 2; arg 1; rw [s44_b0]
    simpa (disch := omega) [hi, get_low, hd, hg, ga, h1, hll, if_pos, hn1, IntWalk.i64_in, P0, rCell, rcells, i1, i2, n1, hcv] using ih

set_option maxHeartbeats 8000000 in
theorem l9b (k : Nat) (M : Mem) (a : Rec) (sa ma : AV) (fa : Bool) (i1 : AV.ids M.length sa = []) (i2 : AV.ids M.length ma = []) (L : List (BitVec 64)) (N : Nat) (h1 : L.length = N) (hN : N < 2 ^ 30) (j : Nat) : ∀ (i n : Nat) (t : List UInt8), i + j = N → j < n → t.length + 8 * j < 2 ^ 40 →
    fgt a44_1 (rnd0 (some (e44_1 (P0 M 0) (.slice (some ⟨M.length, 28088, N, 0⟩) N 1) (.str t) (.int .i64 i), mk [(28088, .cells (L.map u64) true true), (0, rCell a sa ma fa)] :: M)) k44_1 (callFn SP (k + 1)) s44_b1 n) =
      some (.exit 2, x44_1 (P0 M 0) (.str (t ++ nums6 (L.drop i))), mk [(0, rCell a sa ma fa)] :: M) := by
  induction j with
  | zero =>
    intro i n t h hn hb
    obtain rfl : i = N := by omega
    rw [rnd0_some, List.drop_of_length_le (by omega)]
    conv => lhs; arg 2; arg 1; rw [s44_b1]
    simp [P0, rCell, rcells, nums6, i1, i2]
  | succ j ih0 =>
    intro i n t h hn hb
    obtain ⟨n, rfl⟩ : ∃ m, n = m + 1 := ⟨n - 1, by omega⟩
    have hi : i < N := by omega
    have ga := map_app_get u64 L [] i (by omega)
    rw [List.append_nil] at ga
    have e0 : t ++ nums6 (L.drop i) = t ++ K.be8 (nth L i) ++ nums6 (L.drop (i + 1)) := by rw [drop_nth L i (by omega)]; simp [nums6]
    rw [e0]
    have hl8 := K.be8_len (nth L i)
    have ih := ih0 (i + 1) n (t ++ K.be8 (nth L i)) (by omega) (by omega) (by rw [List.length_append]; omega)
    have hnum := fun l => rnum_e k (mk l :: ro M) (nth L i)
    generalize nth L i = x at *
    generalize K.be8 x = bt at *
    generalize nums6 (L.drop (i + 1)) = rest at *
    have hll : (L.map u64).length = N := by rw [List.length_map, h1]
    generalize L.map u64 = CC at *
    have ga4 : ∀ h : i < CC.length, CC[i]'h = u64 x := fun h => by
      rw [List.getElem?_eq_getElem h] at ga; exact Option.some.inj ga
    rw [rnd0_some]
    conv => lhs; arg 2; arg 1; rw [s44_b1]
    simpa (disch := omega) [hi, ga, ga4, h1, hll, if_pos, IntWalk.i64_in, P0, rCell, rcells, i1, i2, hnum, hl8] using ih

set_option maxHeartbeats 8000000 in
theorem l9c (k : Nat) (M : Mem) (a : Rec) (sa ma : AV) (fa : Bool) (ha : IsRec M a sa ma) (N : Nat) (h1 : a.mems.length = N) (hN : N < 2 ^ 30) (hg32 : ∀ m ∈ a.mems, m.top.length = 32 ∧ m.log.length = 32) (j : Nat) : ∀ (i n : Nat) (t : List UInt8), i + j = N → j < n → t.length + 88 * j < 2 ^ 40 →
    fgt a44_2 (rnd0 (some (e44_2 (P0 M 0) (.str t) (.int .i64 i), mk [(0, rCell a sa ma fa)] :: M)) k44_2 (callFn SP (k + 2)) s44_b2 n) =
      some (.exit 4, x44_2 (.str (t ++ mTs (a.mems.drop i))), mk [] :: M) := by
  have i1 := WS_ids ha.s
  have i2 := WM_ids ha.m
  have n2 := ha.m.len
  rw [h1] at n2
  induction j with
  | zero =>
    intro i n t h hn hb
    obtain rfl : i = N := by omega
    rw [rnd0_some, List.drop_of_length_le (by omega)]
    conv => lhs; arg 2; arg 1; rw [s44_b2]
    simp [P0, rCell, rcells, mTs, i1, i2, n2]
  | succ j ih0 =>
    intro i n t h hn hb
    obtain ⟨n, rfl⟩ : ∃ m, n = m + 1 := ⟨n - 1, by omega⟩
    have hi : i < N := by omega
    have hs1 := ha.m
    obtain ⟨d, id, z, rw_, fl, r, hvv, hd, hg⟩ := hs1.block (by omega)
    subst hvv
    have sa1 := flat_seg mc_len r a.mems i (by omega)
    have la : i * 3 + 3 ≤ (a.mems.flatMap mc ++ r).length := by rw [List.length_append, flat_len mc_len]; omega
    have hn1 : d ≠ M.length := by omega
    have e1 : mc (nth a.mems i) = [.int .i64 (nth a.mems i).st, .str (nth a.mems i).top, .str (nth a.mems i).log] := rfl
    rw [e1] at sa1
    clear e1
    have e0 : t ++ mTs (a.mems.drop i) = t ++ mT (nth a.mems i) ++ mTs (a.mems.drop (i + 1)) := by rw [drop_nth a.mems i (by omega)]; simp [mTs]
    rw [e0]
    have hmem : nth a.mems i ∈ a.mems := List.mem_of_getElem? (getElem?_nth a.mems i (by omega))
    have h32 := hg32 _ hmem
    have ih1 := fun t => ih0 (i + 1) n t (by omega) (by omega)
    clear ih0 hs1
    generalize a.mems.drop (i + 1) = rest at *
    generalize a.mems.flatMap mc ++ r = BA at sa1 la hg
    generalize nth a.mems i = m at *
    obtain ⟨x1, x2, x3⟩ := m
    simp only [mT, b8] at sa1 h32 ⊢
    have hl8 := K.be8_len (BitVec.ofInt 64 x1)
    have hn8 := fun l => rnum_e (k + 1) (mk l :: ro M) (BitVec.ofInt 64 x1)
    have ht2 := fun l => rtext_e k (mk l :: ro M) x2 (by omega)
    have ht3 := fun l => rtext_e k (mk l :: ro M) x3 (by omega)
    have hl2 : (et x2).length = 40 := by rw [et, List.length_append, K.be8_len, h32.1]
    have hl3 : (et x3).length = 40 := by rw [et, List.length_append, K.be8_len, h32.2]
    have hcv : aconv .u64 (.int .i64 x1) = some (u64 (BitVec.ofInt 64 x1)) := by simp
    generalize K.be8 (BitVec.ofInt 64 x1) = b1 at *
    generalize et x2 = b2 at *
    generalize et x3 = b3 at *
    have ih := ih1 (t ++ (b1 ++ b2 ++ b3)) (by simp; omega)
    clear ih1
    generalize mTs rest = rr at *
    rw [rnd0_some]
    conv => lhs; arg 2; arg 1; rw [s44_b2]
    simpa (disch := omega) [hi, get_low, hd, hg, sa1, la, h1, if_pos, hn1, IntWalk.i64_in, P0, rCell, rcells, i1, i2, n2, hn8, ht2, ht3, hcv, hl8, hl2, hl3] using ih

end Go.Proofs.YtaennaoaoahjmaaDoor

namespace Go.Proofs.YtaennaoaoahjmaaDoor
open Go.Det

def l64 (r : Rec) : List (BitVec 64) := [r.count, r.epoch, BitVec.ofInt 64 r.data, BitVec.ofInt 64 r.slots, BitVec.ofInt 64 r.mark, BitVec.ofInt 64 r.built, BitVec.ofInt 64 (one r.growing), BitVec.ofInt 64 (r.seats.length : Int)]

theorem l64_putT (r : Rec) : nums6 (l64 r ++ r.seats.map (BitVec.ofInt 64) ++ [BitVec.ofInt 64 (r.mems.length : Int)]) ++ mTs r.mems = putT r := by
  unfold putT nums
  simp [nums6, l64, head6, b8, Function.comp_def]

set_option maxHeartbeats 16000000 in
theorem rput_ev (k : Nat) (M : Mem) (r : Rec) (sv mv : AV) (h : IsRec M r sv mv) :
    callFn SP (k + 4) 44 [recV r sv mv] M = some (.tuple [.str (if goodP r then putT r else []), .int .i64 (if goodP r then 0 else 4)], [], M) := by
  have hgood := fun l => rgood_ev (k + 1) (mk l :: ro M) r sv mv (h.ro.cons _)
  simp only [rgood_good] at hgood
  have i1 := WS_ids h.s
  have i2 := WM_ids h.m
  have n1 := h.s.len
  have n2 := h.m.len
  cases hgd : goodP r
  · rw [hgd] at hgood
    obtain ⟨count, epoch, data, slots, mark, built, growing, seats, mems⟩ := r
    rw [call_fn (f := 44) (by rfl) (by simp)]
    simp only [recV, rcells] at hgood ⊢
    simp [hgood]
  · have hg32 : ∀ m ∈ r.mems, m.top.length = 32 ∧ m.log.length = 32 := fun m hm => (good_mems hgd m hm).2.2
    have hsl : r.seats.length ≤ 11 ∧ r.mems.length ≤ 12 := by
      have hz : rszP r = true := by
        have := rgood_good r
        rw [hgd] at this
        unfold rgoodP at this
        cases hz : rszP r
        · rw [hz] at this; cases this
        · rfl
      have := rszP_true hz
      refine ⟨?_, this.2.2.2.2.2.2.2.2.2.2⟩
      have h1 := this.2.1
      have h2 := this.2.2.1
      split at h1 <;> split at h2 <;> simp_all <;> omega
    rw [hgd] at hgood
    have ha := l9a (callFn SP (k + 3)) M r sv mv (AV.under 0 sv && AV.under 0 mv && (sv.noNil && mv.noNil)) h r.seats.length rfl (by omega) r.seats.length 0 (r.seats.length + 1) 8 (l64 r) rfl rfl (by omega) (by omega)
    have hb := l9b (k + 2) M r sv mv (AV.under 0 sv && AV.under 0 mv && (sv.noNil && mv.noNil)) i1 i2 (l64 r ++ r.seats.map (BitVec.ofInt 64) ++ [BitVec.ofInt 64 (r.mems.length : Int)]) (8 + r.seats.length + 1) (by simp [l64]; omega) (by omega) (8 + r.seats.length + 1) 0 (8 + r.seats.length + 2) [] (by omega) (by omega) (by simp; omega)
    have hln : (nums6 (l64 r ++ r.seats.map (BitVec.ofInt 64) ++ [BitVec.ofInt 64 (r.mems.length : Int)])).length < 2 ^ 20 := by
      have : ∀ l : List (BitVec 64), (nums6 l).length = 8 * l.length := by
        intro l
        induction l with
        | nil => rfl
        | cons x l ih => simp only [nums6, List.map_cons, List.flatten_cons, List.length_append, List.length_cons, K.be8_len] at ih ⊢; rw [ih]; omega
      rw [this]; simp [l64]; omega
    have hc := l9c (k + 1) M r sv mv (AV.under 0 sv && AV.under 0 mv && (sv.noNil && mv.noNil)) h r.mems.length rfl (by omega) hg32 r.mems.length 0 (r.mems.length + 1) (nums6 (l64 r ++ r.seats.map (BitVec.ofInt 64) ++ [BitVec.ofInt 64 (r.mems.length : Int)])) (by omega) (by omega) (by omega)
    rw [List.drop_zero] at ha hb hc
    rw [List.nil_append] at hb
    rw [l64_putT] at hc
    generalize nums6 (l64 r ++ r.seats.map (BitVec.ofInt 64) ++ [BitVec.ofInt 64 (r.mems.length : Int)]) = NN at *
    generalize putT r = PT at *
    have e1 : (l64 r).map u64 = [u64 r.count, u64 r.epoch, u64 (BitVec.ofInt 64 r.data), u64 (BitVec.ofInt 64 r.slots), u64 (BitVec.ofInt 64 r.mark), u64 (BitVec.ofInt 64 r.built), u64 (BitVec.ofInt 64 (one r.growing)), u64 (BitVec.ofInt 64 (r.seats.length : Int))] := rfl
    simp only [List.map_append, e1, List.map_map] at ha hb
    generalize hSC : r.seats.map (u64 ∘ BitVec.ofInt 64) = SC at *
    have hscl : SC.length = r.seats.length := by rw [← hSC, List.length_map]
    obtain ⟨CC, hCC⟩ : ∃ CC, [u64 r.count, u64 r.epoch, u64 (BitVec.ofInt 64 r.data), u64 (BitVec.ofInt 64 r.slots), u64 (BitVec.ofInt 64 r.mark), u64 (BitVec.ofInt 64 r.built), u64 (BitVec.ofInt 64 (one r.growing)), u64 (BitVec.ofInt 64 (r.seats.length : Int))] ++ SC = CC := ⟨_, rfl⟩
    have hccl : CC.length = 8 + r.seats.length := by rw [← hCC, List.length_append, hscl]; rfl
    rw [hCC] at ha hb
    clear hCC hSC hscl
    have hlim : (8 + r.seats.length + 1) * 8 ≤ 35184372088832 ∧ 8 + r.seats.length ≤ 35184372088831 := by omega
    have hp : ∀ a b, mk [((0 : Nat), a), (28088, b)] = mk [(28088, b), (0, a)] := by
      intro a b
      funext j
      simp only [mk]
      by_cases j1 : j = 0
      · subst j1; rfl
      · simp only [if_neg j1]
    obtain ⟨count, epoch, data, slots, mark, built, growing, seats, mems⟩ := r
    simp only at *
    rw [call_fn (f := 44) (by rfl) (by simp)]
    simp only [recV, rcells] at hgood ⊢
    cases growing
    · simp only [one, Bool.false_eq_true, if_false] at ha hb
      simp (disch := omega) [hgood, n1]
      rw [ev_loop (seats.length + 1) (by simp [i1, i2, P0, rCell, rcells, hp]) ha (by omega)]
      simp (disch := omega) [n2, P0, rCell, rcells, hccl, hlim]
      rw [ev_loop (8 + seats.length + 2) (by simp [i1, i2, P0, rCell, rcells, hccl]) hb (by omega)]
      simp (disch := omega) [P0, rCell, rcells]
      rw [ev_loop (mems.length + 1) (by simp [i1, i2, P0, rCell, rcells]) hc (by omega)]
      simp
    · simp only [one, if_true] at ha hb
      simp (disch := omega) [hgood, n1]
      rw [ev_loop (seats.length + 1) (by simp [i1, i2, P0, rCell, rcells, hp]) ha (by omega)]
      simp (disch := omega) [n2, P0, rCell, rcells, hccl, hlim]
      rw [ev_loop (8 + seats.length + 2) (by simp [i1, i2, P0, rCell, rcells, hccl]) hb (by omega)]
      simp (disch := omega) [P0, rCell, rcells]
      rw [ev_loop (mems.length + 1) (by simp [i1, i2, P0, rCell, rcells]) hc (by omega)]
      simp

end Go.Proofs.YtaennaoaoahjmaaDoor

namespace Go.Proofs.YtaennaoaoahjmaaDoor
open Go.Det

/-- A record whose seats and disks lie in a scope. -/
theorem rec_tX (M : Mem) (R : Rec) (h1 : R.seats.length < 2 ^ 40) (h2 : R.mems.length < 2 ^ 40) (rw_ : Bool) (l : List (Nat × Con)) (hs : R.seats ≠ [] → mk l 64016 = some (.cells (R.seats.map (AV.int .i64)) rw_ true))
    (hm : R.mems ≠ [] → mk l 100016 = some (.cells (R.mems.flatMap mc) rw_ true)) : IsRec (mk l :: M) R (tW M.length R.seats) (mV M.length 100016 R.mems) := by
  refine ⟨?_, ?_, h1, h2⟩
  · unfold tW
    by_cases hS : R.seats = []
    · rw [if_pos hS, hS]; exact WS.nil
    · rw [if_neg hS]; exact WS.top' (hs hS) rfl rfl rfl
  · unfold mV
    by_cases hM : R.mems = []
    · rw [if_pos hM, hM]; exact WM.nil
    · rw [if_neg hM]; exact WM.top (hm hM) rfl (by rw [flat_len mc_len]; omega) rfl

/-- What the document's Get returns. -/
def xgetOut (D : Nat) (t : List UInt8) : AV × List Con :=
  if goodP (xgetR t) = true ∧ putT (xgetR t) = t then
    (.tuple [recV (xgetR t) (.slice (some ⟨D, 0, (xgetR t).seats.length, 0⟩) (xgetR t).seats.length 1) (.slice (some ⟨D, 1, 3 * (xgetR t).mems.length, 0⟩) (xgetR t).mems.length 3), .int .i64 0],
      [.cells ((xgetR t).seats.map (AV.int .i64)) true true, .cells ((xgetR t).mems.flatMap mc) true true])
  else (.tuple [recV zeroR (.slice none 0 0) (.slice none 0 0), .int .i64 4], [])

set_option maxHeartbeats 16000000 in
theorem refget_ev (k : Nat) (M : Mem) (t : List UInt8) (ht : t.length < 2 ^ 48) :
    callFn SP (k + 5) 21 [.str t] M = some ((xgetOut M.length t).1, (xgetOut M.length t).2, M) := by
  unfold xgetOut xgetR
  simp only
  obtain ⟨c, r1, e1⟩ : ∃ c r, K.xnum t (0, 0) = (c, r) := ⟨_, _, rfl⟩
  have g1 : r1.1 ≤ t.length := by have := K.xnum_le t (0, 0) (Nat.zero_le _); rw [e1] at this; exact this
  have h1 := number_at (k + 3) M t (0, 0) (Nat.zero_le _) ht
  rw [e1] at h1 ⊢
  simp only at h1 ⊢
  obtain ⟨e, r2, e2⟩ : ∃ c r, K.xnum t r1 = (c, r) := ⟨_, _, rfl⟩
  have g2 : r2.1 ≤ t.length := by have := K.xnum_le t r1 g1; rw [e2] at this; exact this
  have h2 := number_at (k + 3) M t r1 g1 ht
  rw [e2] at h2 ⊢
  simp only at h2 ⊢
  obtain ⟨d, r3, e3⟩ : ∃ c r, xsmall t r2 = (c, r) := ⟨_, _, rfl⟩
  have g3 : r3.1 ≤ t.length := by have := xsmall_le t r2 g2; rw [e3] at this; exact this
  have h3 := small_at (k + 2) M t r2 g2 ht
  rw [e3] at h3 ⊢
  simp only at h3 ⊢
  obtain ⟨sl, r4, e4⟩ : ∃ c r, xsmall t r3 = (c, r) := ⟨_, _, rfl⟩
  have g4 : r4.1 ≤ t.length := by have := xsmall_le t r3 g3; rw [e4] at this; exact this
  have h4 := small_at (k + 2) M t r3 g3 ht
  rw [e4] at h4 ⊢
  simp only at h4 ⊢
  obtain ⟨mk_, r5, e5⟩ : ∃ c r, xsmall t r4 = (c, r) := ⟨_, _, rfl⟩
  have g5 : r5.1 ≤ t.length := by have := xsmall_le t r4 g4; rw [e5] at this; exact this
  have h5 := small_at (k + 2) M t r4 g4 ht
  rw [e5] at h5 ⊢
  simp only at h5 ⊢
  obtain ⟨bu, r6, e6⟩ : ∃ c r, xsmall t r5 = (c, r) := ⟨_, _, rfl⟩
  have g6 : r6.1 ≤ t.length := by have := xsmall_le t r5 g5; rw [e6] at this; exact this
  have h6 := small_at (k + 2) M t r5 g5 ht
  rw [e6] at h6 ⊢
  simp only at h6 ⊢
  obtain ⟨gr, r7, e7⟩ : ∃ c r, xsmall t r6 = (c, r) := ⟨_, _, rfl⟩
  have g7 : r7.1 ≤ t.length := by have := xsmall_le t r6 g6; rw [e7] at this; exact this
  have h7 := small_at (k + 2) M t r6 g6 ht
  rw [e7] at h7 ⊢
  simp only at h7 ⊢
  obtain ⟨n, r8, e8⟩ : ∃ c r, xsmall t r7 = (c, r) := ⟨_, _, rfl⟩
  have g8 : r8.1 ≤ t.length := by have := xsmall_le t r7 g7; rw [e8] at this; exact this
  have h8 := small_at (k + 2) M t r7 g7 ht
  have b8 := xsmall_lt t r7
  rw [e8] at h8 b8 ⊢
  simp only at h8 b8 ⊢
  have sn := xseats_n t n.toNat r8
  have la := fun r => l21a (k + 2) M t ht r n b8.2 n.toNat 0 (n.toNat + 1) [] r8 rfl g8 (by omega) (by omega)
  have g9 := xseats_le t n.toNat r8 g8
  obtain ⟨S, r9, e9⟩ : ∃ c r, xseats t n.toNat r8 = (c, r) := ⟨_, _, rfl⟩
  rw [e9] at la sn g9 ⊢
  simp only [List.nil_append] at la sn g9 ⊢
  obtain ⟨m, r10, e10⟩ : ∃ c r, xsmall t r9 = (c, r) := ⟨_, _, rfl⟩
  have g10 : r10.1 ≤ t.length := by have := xsmall_le t r9 g9; rw [e10] at this; exact this
  have h10 := small_at (k + 2) M t r9 g9 ht
  have b10 := xsmall_lt t r9
  rw [e10] at h10 b10 ⊢
  simp only at h10 b10 ⊢
  have sm := xmems_n t m.toNat r10
  have lb := fun r => l21b (k + 2) M t ht r S m b10.2 m.toNat 0 (m.toNat + 1) [] r10 rfl g10 (by omega) (by omega)
  obtain ⟨Ms, r11, e11⟩ : ∃ c r, xmems t m.toNat r10 = (c, r) := ⟨_, _, rfl⟩
  rw [e11] at lb sm ⊢
  simp only [List.nil_append] at lb sm ⊢
  have hR := rec_tX (ro M) ⟨c, e, d, sl, mk_, bu, decide (gr = 1), S, Ms⟩ (by simp only; omega) (by simp only; omega) false
  have hput := fun l hs hm => rput_ev k (mk l :: ro M) _ _ _ (hR l hs hm)
  simp only [ro_length] at hput
  clear e1 e2 e3 e4 e5 e6 e7 e8 e9 e10 e11 hR
  have hne := @good_ne' ⟨c, e, d, sl, mk_, bu, decide (gr = 1), S, Ms⟩
  simp only at hne
  have hml : (Ms.flatMap mc).length = 3 * Ms.length := by rw [flat_len mc_len]; omega
  generalize putT ⟨c, e, d, sl, mk_, bu, decide (gr = 1), S, Ms⟩ = PT at *
  generalize goodP ⟨c, e, d, sl, mk_, bu, decide (gr = 1), S, Ms⟩ = GG at *
  obtain ⟨a1, b1⟩ := r1
  obtain ⟨a2, b2⟩ := r2
  obtain ⟨a3, b3⟩ := r3
  obtain ⟨a4, b4⟩ := r4
  obtain ⟨a5, b5⟩ := r5
  obtain ⟨a6, b6⟩ := r6
  obtain ⟨a7, b7⟩ := r7
  obtain ⟨a8, b8'⟩ := r8
  obtain ⟨a9, b9⟩ := r9
  obtain ⟨a10, b10'⟩ := r10
  simp only [xdC, K.xc] at h1 h2 h3 h4 h5 h6 h7 h8 h10
  rw [call_fn (f := 21) (by rfl) (by simp)]
  simp (disch := first | omega | (simp; done) | (simp; omega)) [h1, h2, h3, h4, h5, h6, h7, h8, ro_length]
  rw [ev_loop (n.toNat + 1) (by simp [L21, P0, z9, rC, rcells, xdC, tW, tB, mV, mB]) (la ⟨c, e, d, sl, mk_, bu, decide (gr = 1), [], []⟩) (by omega)]
  by_cases hS : S = []
  · have hg : GG = false := by cases GG; rfl; exact absurd hS (hne rfl).1
    subst hg hS
    simp only [Bool.false_eq_true, if_false] at hput
    simp (disch := first | omega | (simp; done) | (simp; omega)) [L21, P0, z9, rC, rcells, xdC, tW, tB, mV, mB, h10]
    rw [ev_loop (m.toNat + 1) (by simp [L21, P0, z9, rC, rcells, xdC, tW, tB, mV, mB]) (lb ⟨c, e, d, sl, mk_, bu, decide (gr = 1), [], []⟩) (by omega)]
    by_cases hM : Ms = []
    · subst hM
      simp [recV, rcells, tW, mV] at hput
      simp (disch := first | omega | (simp; done) | (simp; omega)) [L21, P0, z9, rC, rcells, xdC, tW, tB, mV, mB, hput, hml, ro_length, recV, zeroR]
    · simp [recV, rcells, tW, mV, hM] at hput
      generalize hFF : Ms.flatMap mc = FF at *
      simp (disch := first | omega | (simp; done) | (simp; omega)) [L21, P0, z9, rC, rcells, xdC, tW, tB, mV, mB, hput, hml, ro_length, recV, zeroR, hM, hFF]
  · simp (disch := first | omega | (simp; done) | (simp; omega)) [L21, P0, z9, rC, rcells, xdC, tW, tB, mV, mB, h10, hS]
    rw [ev_loop (m.toNat + 1) (by simp [L21, P0, z9, rC, rcells, xdC, tW, tB, mV, mB, hS]) (lb ⟨c, e, d, sl, mk_, bu, decide (gr = 1), [], []⟩) (by omega)]
    by_cases hM : Ms = []
    · have hg : GG = false := by cases GG; rfl; exact absurd hM (hne rfl).2
      subst hg hM
      simp only [Bool.false_eq_true, if_false] at hput
      simp [recV, rcells, tW, mV, hS] at hput
      simp (disch := first | omega | (simp; done) | (simp; omega)) [L21, P0, z9, rC, rcells, xdC, tW, tB, mV, mB, hput, hml, ro_length, recV, zeroR, hS]
    · simp [recV, rcells, tW, mV, hS, hM] at hput
      generalize hFF : Ms.flatMap mc = FF at *
      cases GG
      · simp only [Bool.false_eq_true, if_false] at hput
        simp (disch := first | omega | (simp; done) | (simp; omega)) [L21, P0, z9, rC, rcells, xdC, tW, tB, mV, mB, hput, hml, ro_length, recV, zeroR, hS, hM, hFF]
      · simp only [if_true] at hput
        by_cases hpt : PT = t
        · simp (disch := first | omega | (simp; done) | (simp; omega)) [L21, P0, z9, rC, rcells, xdC, tW, tB, mV, mB, hput, hml, ro_length, recV, zeroR, hS, hM, hFF, hpt]
        · simp (disch := first | omega | (simp; done) | (simp; omega)) [L21, P0, z9, rC, rcells, xdC, tW, tB, mV, mB, hput, hml, ro_length, recV, zeroR, hS, hM, hFF, hpt]

end Go.Proofs.YtaennaoaoahjmaaDoor

namespace Go.Proofs.YtaennaoaoahjmaaDoor
open Go.Det Go.Det.S

/-! ### the constants -/
def kv : List (BitVec 32) := [1116352408#32, 1899447441#32, 3049323471#32, 3921009573#32, 961987163#32, 1508970993#32, 2453635748#32, 2870763221#32, 3624381080#32, 310598401#32, 607225278#32, 1426881987#32, 1925078388#32, 2162078206#32, 2614888103#32, 3248222580#32, 3835390401#32, 4022224774#32, 264347078#32, 604807628#32, 770255983#32, 1249150122#32, 1555081692#32, 1996064986#32, 2554220882#32, 2821834349#32, 2952996808#32, 3210313671#32, 3336571891#32, 3584528711#32, 113926993#32, 338241895#32, 666307205#32, 773529912#32, 1294757372#32, 1396182291#32, 1695183700#32, 1986661051#32, 2177026350#32, 2456956037#32, 2730485921#32, 2820302411#32, 3259730800#32, 3345764771#32, 3516065817#32, 3600352804#32, 4094571909#32, 275423344#32, 430227734#32, 506948616#32, 659060556#32, 883997877#32, 958139571#32, 1322822218#32, 1537002063#32, 1747873779#32, 1955562222#32, 2024104815#32, 2227730452#32, 2361852424#32, 2428436474#32, 2756734187#32, 3204031479#32, 3329325298#32]
def v0 : H8 := ⟨1779033703#32, 3144134277#32, 1013904242#32, 2773480762#32, 1359893119#32, 2600822924#32, 528734635#32, 1541459225#32⟩
theorem kv_len : kv.length = 64 := rfl
def G4 : List (Nat × List AV) := [(0, v0.l.map u32), (1, kv.map u32), (2, v0.l.map u32), (3, kv.map u32)]
def G2 : List (Nat × List AV) := [(2, v0.l.map u32), (3, kv.map u32)]

theorem gl_ref (s : Scope) : Gl kv v0 0 1 [s, gScope G4] := ⟨by simp, fun o => rfl, fun o => rfl⟩
theorem gl_sha (s : Scope) : Gl kv v0 2 3 [s, gScope G4] := ⟨by simp, fun o => rfl, fun o => rfl⟩
theorem gl_sha2 (s : Scope) : Gl kv v0 2 3 [s, gScope G2] := ⟨by simp, fun o => rfl, fun o => rfl⟩

/-! ### the sums -/
theorem sum_e (k : Nat) (M : Mem) (hG : Gl kv v0 2 3 M) (s : List UInt8) (hs : s.length < 2 ^ 45) : callFn SP (k + 8) 59 [.str s] M = some (.str (dg kv v0 s), [], M) :=
  shasum_ev (SP := SP) (n16 := 59) (n22 := 68) (n23 := 69) (n24 := 70) (n43 := 78) (n44 := 79) (n45 := 52) (n60 := 81) (n61 := 82) (n71 := 53) (n72 := 87) (n80 := 64) (n81 := 65) rfl rfl rfl rfl rfl rfl rfl rfl rfl rfl rfl rfl rfl rfl k M kv kv_len v0 hG s hs
theorem ref_e (k : Nat) (M : Mem) (hG : Gl kv v0 0 1 M) (s : List UInt8) (hs : s.length < 2 ^ 40) : callFn SP (k + 5) 48 [.str s] M = some (.str (dg kv v0 s), [], M) :=
  refsum_ev (SP := SP) (n17 := 48) (n40 := 60) (n41 := 61) (n42 := 62) (n55 := 71) (n56 := 72) (n57 := 73) (n58 := 74) (n59 := 75) (n70 := 80) rfl rfl rfl rfl rfl rfl rfl rfl rfl rfl k M kv kv_len v0 hG s hs

theorem top_e (k : Nat) (M : Mem) (hG : Gl kv v0 2 3 M) (s : List UInt8) (hs : s.length < 2 ^ 44) : callFn SP (k + 9) 47 [.str s] M = some (.str (dg kv v0 (2 :: s)), [], M) := by
  have h1 := fun k l => sum_e k (mk l :: ro M) (hG.ro.cons (mk l)) (2 :: s) (by rw [List.length_cons]; omega)
  rw [call_fn (f := 47) (by rfl) (by simp)]
  simp (disch := first | omega | (simp; omega)) [h1, if_pos]
theorem kind_e (k : Nat) (M : Mem) (hR : Gl kv v0 0 1 M) (x : UInt8) (s : List UInt8) (hs : s.length < 2 ^ 38) : callFn SP (k + 6) 27 [byteAV x, .str s] M = some (.str (dg kv v0 (x :: s)), [], M) := by
  have h1 := fun k l => ref_e k (mk l :: ro M) (hR.ro.cons (mk l)) (x :: s) (by rw [List.length_cons]; omega)
  have hb : bytesOf [byteAV x] = some [x] := bytesOf_map [x]
  rw [call_fn (f := 27) (by rfl) (by simp)]
  simp (disch := first | omega | (simp; omega)) [h1, hb, if_pos]

end Go.Proofs.YtaennaoaoahjmaaDoor

namespace Go.Proofs.YtaennaoaoahjmaaDoor
open Go.Det Go.Det.S

theorem digest_e (k : Nat) (M : Mem) (hG : Gl kv v0 2 3 M) (s : List UInt8) (hs : s.length < 2 ^ 44) : callFn SP (k + 10) 24 [.str s] M = some (.str (dg kv v0 (2 :: s)), [], M) := by
  have h1 := fun l => top_e k (mk l :: ro M) (hG.ro.cons (mk l)) s hs
  rw [call_fn (f := 24) (by rfl) (by simp)]
  simp [h1]
theorem refdigest_e (k : Nat) (M : Mem) (hR : Gl kv v0 0 1 M) (s : List UInt8) (hs : s.length < 2 ^ 38) : callFn SP (k + 7) 25 [.str s] M = some (.str (dg kv v0 (2 :: s)), [], M) := by
  have h1 := fun l => kind_e k (mk l :: ro M) (hR.ro.cons (mk l)) 2 s hs
  rw [call_fn (f := 25) (by rfl) (by simp)]
  simp [h1]

set_option maxHeartbeats 8000000 in
theorem gets_core (M : Mem) (hw : ∀ l, callFn SP 12 22 [] (mk l :: ro M) = some (.bool true, [], mk l :: ro M)) (hG : Gl kv v0 2 3 M) (hR : Gl kv v0 0 1 M) (t : List UInt8) : callFn SP 13 7 [.str t] M = some (.bool true, [], M) := by
  have hl : (t.take (min t.length 1500)).length ≤ 1500 := by rw [List.length_take]; omega
  have hd := fun l => digest_e 2 (mk l :: ro M) (hG.ro.cons (mk l)) (t.take (min t.length 1500)) (by omega)
  have he := fun l => refdigest_e 5 (mk l :: ro M) (hR.ro.cons (mk l)) (t.take (min t.length 1500)) (by omega)
  have h1 := fun l => get_ev 5 (mk l :: ro M) (t.take (min t.length 1500)) (by omega)
  have h2 := fun l => refget_ev 7 (mk l :: ro M) (t.take (min t.length 1500)) (by omega)
  have hlaw := get_law (t.take (min t.length 1500))
  generalize dg kv v0 (2 :: t.take (min t.length 1500)) = DG at *
  unfold getOut at h1
  unfold xgetOut at h2
  rw [call_fn (f := 7) (by rfl) (by simp)]
  by_cases hc : goodP (xgetR (t.take (min t.length 1500))) = true ∧ putT (xgetR (t.take (min t.length 1500))) = t.take (min t.length 1500)
  · have hc1 := hlaw.1.2 hc
    have hr := hlaw.2 hc1.1
    simp only [if_pos hc] at h2
    simp only [if_pos hc1] at h1
    rw [hr] at h1
    have hgd := hc.1
    clear hc hc1 hr hlaw
    generalize xgetR (t.take (min t.length 1500)) = R at *
    have hRs : R.seats.length ≤ 30 := by have := (good_seats hgd).1; omega
    have hRm : R.mems.length ≤ 20 := by have := (good_small hgd).nmem; omega
    have hml : (R.mems.flatMap mc).length = 3 * R.mems.length := by rw [flat_len mc_len]; omega
    have hsame : ∀ l i j i' j', mk l i = some (.cells (R.seats.map (AV.int .i64)) false true) → mk l j = some (.cells (R.mems.flatMap mc) false true) → mk l i' = some (.cells (R.seats.map (AV.int .i64)) false true) → mk l j' = some (.cells (R.mems.flatMap mc) false true) →
        callFn SP (11 + 1) 23 [recV R (.slice (some ⟨M.length, i, R.seats.length, 0⟩) R.seats.length 1) (.slice (some ⟨M.length, j, 3 * R.mems.length, 0⟩) R.mems.length 3), recV R (.slice (some ⟨M.length, i', R.seats.length, 0⟩) R.seats.length 1) (.slice (some ⟨M.length, j', 3 * R.mems.length, 0⟩) R.mems.length 3)] (mk l :: ro M) =
          some (.bool true, [], mk l :: ro M) := by
      intro l i j i' j' e1 e2 e3 e4
      have := same_ev 11 (mk l :: ro M) R R _ _ _ _ (rec_top (M := ro M) (d := M.length) (d2 := M.length) e1 e2 hRs hRm (by rw [ro_length]) (by rw [ro_length]) rfl rfl rfl rfl) (rec_top (M := ro M) (d := M.length) (d2 := M.length) e3 e4 hRs hRm (by rw [ro_length]) (by rw [ro_length]) rfl rfl rfl rfl)
      simpa using this
    obtain ⟨count, epoch, data, slots, mark, built, growing, seats, mems⟩ := R
    simp only [recV, rcells] at h1 h2 hsame hml
    generalize hFF : mems.flatMap mc = FF at *
    simp (disch := first | omega | (simp; done) | (simp; omega)) [h1, h2, hw, hd, he, hsame, ro_length, hml, Nat.min_le_left]
  · have hc1 : ¬ (K.rdone (getR (t.take (min t.length 1500))).2 = 0 ∧ goodP (getR (t.take (min t.length 1500))).1 = true) := fun h => hc (hlaw.1.1 h)
    simp only [if_neg hc] at h2
    simp only [if_neg hc1] at h1
    clear hc hc1 hlaw
    have hsame : ∀ l, callFn SP (11 + 1) 23 [recV zeroR (.slice none 0 0) (.slice none 0 0), recV zeroR (.slice none 0 0) (.slice none 0 0)] (mk l :: ro M) = some (.bool true, [], mk l :: ro M) := by
      intro l
      have := same_ev 11 (mk l :: ro M) zeroR zeroR _ _ _ _ (rec_topN (M := mk l :: ro M) (e := 0) (e' := 0) rfl rfl) (rec_topN (M := mk l :: ro M) (e := 0) (e' := 0) rfl rfl)
      simpa using this
    simp only [recV, rcells, zeroR] at h1 h2 hsame
    simp (disch := first | omega | (simp; done) | (simp; omega)) [h1, h2, hw, hd, he, hsame, ro_length, Nat.min_le_left]

theorem ev_SuperGets (s : Scope) (args : List AV) (h : ArgsShp s [.str] args) : ∃ k M', callFn SP k 7 args [s, gScope G4] = some (.bool true, [], M') := by
  obtain ⟨v, _, rfl, hv, rfl⟩ := h
  obtain ⟨t, rfl, _⟩ := ArgShp_str hv
  exact ⟨13, _, gets_core [s, gScope G4] (fun l => wakes_ev (mk l) (roScope s) (roScope (gScope G4))) (gl_sha s) (gl_ref s) t⟩

end Go.Proofs.YtaennaoaoahjmaaDoor
