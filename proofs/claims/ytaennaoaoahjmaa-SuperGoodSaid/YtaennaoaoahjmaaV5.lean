/-
  The record's law: the bytes of a record, as the document says: the loops.
-/
import Derived.Test.YtaennaoaoahjmaaB2
import Derived.Test.YtaennaoaoahjmaaL
set_option maxRecDepth 100000
set_option linter.unusedSimpArgs false
set_option linter.unusedVariables false
namespace Go.Proofs.Ytaennaoaoahjmaa
open Go.Det

theorem rnum_e (k : Nat) (M : Mem) (n : BitVec 64) : callFn SP (k + 1) 21 [u64 n] M = some (.str (K.be8 n), [], M) := K.refnum_ev (SP := SP) (n21 := 21) rfl k M n
theorem rtext_e (k : Nat) (M : Mem) (s : List UInt8) (hs : s.length < 2 ^ 48) : callFn SP (k + 2) 22 [.str s] M = some (.str (et s), [], M) := K.reftext_ev (SP := SP) (n21 := 21) (n23 := 22) rfl rfl k M s hs

def nums6 (l : List (BitVec 64)) : List UInt8 := (l.map K.be8).flatten
theorem nums6_of (l : List Int) : nums6 (l.map (BitVec.ofInt 64)) = nums l := by simp [nums6, nums, Function.comp_def]

set_option maxHeartbeats 8000000 in
theorem l9a (C : Det.Calls) (M : Mem) (a : Rec) (sa ma : AV) (fa : Bool) (ha : IsRec M a sa ma) (N : Nat) (h1 : a.seats.length = N) (hN : N < 2 ^ 30) (j : Nat) : ∀ (i n z : Nat) (L : List (BitVec 64)), L.length = z → z = 8 + i → i + j = N → j < n →
    fgt a9_0 (rnd0 (some (e9_0 (P0 M 0) (.slice (some ⟨M.length, 28088, z, 0⟩) z 1) (.int .i64 i), mk [(28088, .cells (L.map u64) true true), (0, rCell a sa ma fa)] :: M)) k9_0 C s9_b0 n) =
      some (.exit 0, x9_0 (P0 M 0) (.slice (some ⟨M.length, 28088, z + (N - i), 0⟩) (z + (N - i)) 1), mk [(28088, .cells ((L ++ (a.seats.drop i).map (BitVec.ofInt 64)).map u64) true true), (0, rCell a sa ma fa)] :: M) := by
  have i1 := WS_ids ha.s
  have i2 := WM_ids ha.m
  have n1 := ha.s.len
  rw [h1] at n1
  induction j with
  | zero =>
    intro i n z L hz hzi h hn
    obtain rfl : i = N := by omega
    rw [rnd0_some, List.drop_of_length_le (by omega), Nat.sub_self]
    conv => lhs; arg 2; arg 1; rw [s9_b0]
    simp [P0, rCell, rcells, i1, i2, n1]
  | succ j ih0 =>
    intro i n z L hz hzi h hn
    obtain ⟨n, rfl⟩ : ∃ m, n = m + 1 := ⟨n - 1, by omega⟩
    have hi : i < N := by omega
    have hs1 := ha.s
    obtain ⟨d, id, z2, rw_, fl, r, hvv, hd, hg⟩ := hs1.block (by omega)
    subst hvv
    have ga := map_app_get (AV.int .i64) a.seats r i (by omega)
    have hn1 : d ≠ M.length := by omega
    rw [drop_nth a.seats i (by omega)]
    have ih := ih0 (i + 1) n (z + 1) (L ++ [BitVec.ofInt 64 (nth a.seats i)]) (by simp [hz]) (by omega) (by omega) (by omega)
    rw [show z + 1 + (N - (i + 1)) = z + (N - i) by omega] at ih
    clear ih0 hs1
    rw [List.map_cons, show L ++ BitVec.ofInt 64 (nth a.seats i) :: List.map (BitVec.ofInt 64) (List.drop (i + 1) a.seats) = L ++ [BitVec.ofInt 64 (nth a.seats i)] ++ List.map (BitVec.ofInt 64) (List.drop (i + 1) a.seats) by simp]
    generalize hX : ((L ++ [BitVec.ofInt 64 (nth a.seats i)] ++ List.map (BitVec.ofInt 64) (List.drop (i + 1) a.seats)).map u64) = FIN at *
    clear hX
    generalize nth a.seats i = y at *
    rw [List.map_append, List.map_cons, List.map_nil] at ih
    have hcv : aconv .u64 (.int .i64 y) = some (u64 (BitVec.ofInt 64 y)) := by simp
    have hll : (L.map u64).length = z := by rw [List.length_map, hz]
    generalize L.map u64 = CC at *
    generalize N - i = NI at *
    rw [rnd0_some]
    conv => lhs; arg 2; arg 1; rw [s9_b0]
    simpa (disch := omega) [hi, get_low, hd, hg, ga, h1, hll, if_pos, hn1, IntWalk.i64_in, P0, rCell, rcells, i1, i2, n1, hcv] using ih

set_option maxHeartbeats 8000000 in
theorem l9b (k : Nat) (M : Mem) (a : Rec) (sa ma : AV) (fa : Bool) (i1 : AV.ids M.length sa = []) (i2 : AV.ids M.length ma = []) (L : List (BitVec 64)) (N : Nat) (h1 : L.length = N) (hN : N < 2 ^ 30) (j : Nat) : ∀ (i n : Nat) (t : List UInt8), i + j = N → j < n → t.length + 8 * j < 2 ^ 40 →
    fgt a9_1 (rnd0 (some (e9_1 (P0 M 0) (.slice (some ⟨M.length, 28088, N, 0⟩) N 1) (.str t) (.int .i64 i), mk [(28088, .cells (L.map u64) true true), (0, rCell a sa ma fa)] :: M)) k9_1 (callFn SP (k + 1)) s9_b1 n) =
      some (.exit 2, x9_1 (P0 M 0) (.str (t ++ nums6 (L.drop i))), mk [(0, rCell a sa ma fa)] :: M) := by
  induction j with
  | zero =>
    intro i n t h hn hb
    obtain rfl : i = N := by omega
    rw [rnd0_some, List.drop_of_length_le (by omega)]
    conv => lhs; arg 2; arg 1; rw [s9_b1]
    simp [P0, rCell, rcells, nums6, i1, i2]
  | succ j ih0 =>
    intro i n t h hn hb
    obtain ⟨n, rfl⟩ : ∃ m, n = m + 1 := ⟨n - 1, by omega⟩
    have hi : i < N := by omega
    have ga := map_app_get u64 L [] i (by omega)
    rw [List.append_nil] at ga
    have e0 : t ++ nums6 (L.drop i) = t ++ K.be8 (nth L i) ++ nums6 (L.drop (i + 1)) := by rw [drop_nth L i (by omega)]; simp [nums6]
    rw [e0]
    have hl8 := K.be8_len (nth L i)
    have ih := ih0 (i + 1) n (t ++ K.be8 (nth L i)) (by omega) (by omega) (by rw [List.length_append]; omega)
    have hnum := fun l => rnum_e k (mk l :: ro M) (nth L i)
    generalize nth L i = x at *
    generalize K.be8 x = bt at *
    generalize nums6 (L.drop (i + 1)) = rest at *
    have hll : (L.map u64).length = N := by rw [List.length_map, h1]
    generalize L.map u64 = CC at *
    have ga4 : ∀ h : i < CC.length, CC[i]'h = u64 x := fun h => by
      rw [List.getElem?_eq_getElem h] at ga; exact Option.some.inj ga
    rw [rnd0_some]
    conv => lhs; arg 2; arg 1; rw [s9_b1]
    simpa (disch := omega) [hi, ga, ga4, h1, hll, if_pos, IntWalk.i64_in, P0, rCell, rcells, i1, i2, hnum, hl8] using ih

set_option maxHeartbeats 8000000 in
theorem l9c (k : Nat) (M : Mem) (a : Rec) (sa ma : AV) (fa : Bool) (ha : IsRec M a sa ma) (N : Nat) (h1 : a.mems.length = N) (hN : N < 2 ^ 30) (hg32 : ∀ m ∈ a.mems, m.top.length = 32 ∧ m.log.length = 32) (j : Nat) : ∀ (i n : Nat) (t : List UInt8), i + j = N → j < n → t.length + 88 * j < 2 ^ 40 →
    fgt a9_2 (rnd0 (some (e9_2 (P0 M 0) (.str t) (.int .i64 i), mk [(0, rCell a sa ma fa)] :: M)) k9_2 (callFn SP (k + 2)) s9_b2 n) =
      some (.exit 4, x9_2 (.str (t ++ mTs (a.mems.drop i))), mk [] :: M) := by
  have i1 := WS_ids ha.s
  have i2 := WM_ids ha.m
  have n2 := ha.m.len
  rw [h1] at n2
  induction j with
  | zero =>
    intro i n t h hn hb
    obtain rfl : i = N := by omega
    rw [rnd0_some, List.drop_of_length_le (by omega)]
    conv => lhs; arg 2; arg 1; rw [s9_b2]
    simp [P0, rCell, rcells, mTs, i1, i2, n2]
  | succ j ih0 =>
    intro i n t h hn hb
    obtain ⟨n, rfl⟩ : ∃ m, n = m + 1 := ⟨n - 1, by omega⟩
    have hi : i < N := by omega
    have hs1 := ha.m
    obtain ⟨d, id, z, rw_, fl, r, hvv, hd, hg⟩ := hs1.block (by omega)
    subst hvv
    have sa1 := flat_seg mc_len r a.mems i (by omega)
    have la : i * 3 + 3 ≤ (a.mems.flatMap mc ++ r).length := by rw [List.length_append, flat_len mc_len]; omega
    have hn1 : d ≠ M.length := by omega
    have e1 : mc (nth a.mems i) = [.int .i64 (nth a.mems i).st, .str (nth a.mems i).top, .str (nth a.mems i).log] := rfl
    rw [e1] at sa1
    clear e1
    have e0 : t ++ mTs (a.mems.drop i) = t ++ mT (nth a.mems i) ++ mTs (a.mems.drop (i + 1)) := by rw [drop_nth a.mems i (by omega)]; simp [mTs]
    rw [e0]
    have hmem : nth a.mems i ∈ a.mems := List.mem_of_getElem? (getElem?_nth a.mems i (by omega))
    have h32 := hg32 _ hmem
    have ih1 := fun t => ih0 (i + 1) n t (by omega) (by omega)
    clear ih0 hs1
    generalize a.mems.drop (i + 1) = rest at *
    generalize a.mems.flatMap mc ++ r = BA at sa1 la hg
    generalize nth a.mems i = m at *
    obtain ⟨x1, x2, x3⟩ := m
    simp only [mT, b8] at sa1 h32 ⊢
    have hl8 := K.be8_len (BitVec.ofInt 64 x1)
    have hn8 := fun l => rnum_e (k + 1) (mk l :: ro M) (BitVec.ofInt 64 x1)
    have ht2 := fun l => rtext_e k (mk l :: ro M) x2 (by omega)
    have ht3 := fun l => rtext_e k (mk l :: ro M) x3 (by omega)
    have hl2 : (et x2).length = 40 := by rw [et, List.length_append, K.be8_len, h32.1]
    have hl3 : (et x3).length = 40 := by rw [et, List.length_append, K.be8_len, h32.2]
    have hcv : aconv .u64 (.int .i64 x1) = some (u64 (BitVec.ofInt 64 x1)) := by simp
    generalize K.be8 (BitVec.ofInt 64 x1) = b1 at *
    generalize et x2 = b2 at *
    generalize et x3 = b3 at *
    have ih := ih1 (t ++ (b1 ++ b2 ++ b3)) (by simp; omega)
    clear ih1
    generalize mTs rest = rr at *
    rw [rnd0_some]
    conv => lhs; arg 2; arg 1; rw [s9_b2]
    simpa (disch := omega) [hi, get_low, hd, hg, sa1, la, h1, if_pos, hn1, IntWalk.i64_in, P0, rCell, rcells, i1, i2, n2, hn8, ht2, ht3, hcv, hl8, hl2, hl3] using ih

end Go.Proofs.Ytaennaoaoahjmaa
