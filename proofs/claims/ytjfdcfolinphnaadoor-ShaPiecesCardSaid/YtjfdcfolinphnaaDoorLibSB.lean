/-
  LIB, sha, part B: a block more.
-/
import Derived.Test.YtjfdcfolinphnaaDoorLibS
set_option maxRecDepth 100000
set_option maxHeartbeats 1000000
set_option linter.unusedSimpArgs false
set_option linter.unusedVariables false
namespace Go.Det.S
open Go.Det

section
variable {SP : SProg} {n22 n23 n24 n40 n41 n43 n44 n45 n60 n61 n71 n72 n80 n81 : Nat} {g1 g3 : Nat}

/-- A digest's cells. -/
def hc (v : H8) (r : List UInt8) (n : Int) : List AV := v.l.map u32 ++ [.str r, .int .i64 n]

theorem l43_0 (h61 : SP.fn n61 = some (W.s19 n72)) (h72 : SP.fn n72 = some W.s17) (k : Nat) (M : Mem) (hp : AV) (hpi : AV.ids M.length hp = []) (K Wl : List (BitVec 32)) (hK : K.length = 64) (hW : Wl.length = 64) (v0 : H8) (j : Nat) : ∀ (i n : Nat), i + j = 64 → j < n →
    fgt a43_0 (rnd0 (some (e43_0 hp (.ptr (some ⟨M.length, 24, 64, 0⟩)) (.ptr (some ⟨M.length, 28, 8, 0⟩)) (.agg (K.map u32)) (.int .i64 i), mk [(24, .cells (Wl.map u32) true true), (28, .cells ((rd K Wl v0 i).l.map u32) true true)] :: M)) k43_0 (callFn SP (k + 2)) (s43_b0 n61) n) =
      some (.exit 0, x43_0 hp (.ptr (some ⟨M.length, 28, 8, 0⟩)), mk [(28, .cells ((rd K Wl v0 64).l.map u32) true true)] :: M) := by
  induction j with
  | zero =>
    intro i n h hn
    obtain rfl : i = 64 := by omega
    obtain ⟨n, rfl⟩ : ∃ m, n = m + 1 := ⟨n - 1, by omega⟩
    generalize (rd K Wl v0 64).l = V at *
    generalize Wl.map u32 = Z at *
    generalize K.map u32 = Z2 at *
    rw [rnd0_some]
    conv => lhs; arg 2; arg 1; rw [s43_b0]
    simp (disch := omega) [hpi]
  | succ j ih0 =>
    intro i n h hn
    obtain ⟨n, rfl⟩ : ∃ m, n = m + 1 := ⟨n - 1, by omega⟩
    have hi : i < 64 := by omega
    have ih := ih0 (i + 1) n (by omega) (by omega)
    have hr := fun k M s x n p hp => rt_ev h61 h72 k M s x n p hp
    have r6 := fun k M s x => hr k M s x 6 26 rfl
    have r11 := fun k M s x => hr k M s x 11 21 rfl
    have r25 := fun k M s x => hr k M s x 25 7 rfl
    have r2 := fun k M s x => hr k M s x 2 30 rfl
    have r13 := fun k M s x => hr k M s x 13 19 rfl
    have r22 := fun k M s x => hr k M s x 22 10 rfl
    clear hr ih0
    have gk : (K.map u32)[i]? = some (u32 (nth K i)) := by rw [List.getElem?_map, getElem?_nth K i (by omega)]; rfl
    have gw : (Wl.map u32)[i]? = some (u32 (nth Wl i)) := by rw [List.getElem?_map, getElem?_nth Wl i (by omega)]; rfl
    have ik : AV.idss M.length (K.map u32) = [] := by simp
    have lk : (K.map u32).length = 64 := by rw [List.length_map, hK]
    have lw : (Wl.map u32).length = 64 := by rw [List.length_map, hW]
    rw [show rd K Wl v0 (i + 1) = stp (rd K Wl v0 i) (nth K i) (nth Wl i) from rfl] at ih
    generalize (rd K Wl v0 64).l = V64 at *
    generalize rd K Wl v0 i = v at *
    obtain ⟨a, b, c, d, e, f, g, hh⟩ := v
    generalize nth K i = kk at *
    generalize nth Wl i = ww at *
    generalize K.map u32 = KC at *
    generalize Wl.map u32 = WC at *
    have gk := cell_at gk
    have gw := cell_at gw
    simp only [stp, H8.l, sg, List.map_cons, List.map_nil] at ih ⊢
    rw [rnd0_some]
    conv => lhs; arg 2; arg 1; rw [s43_b0]
    simp (disch := omega) [hi, lk, lw, gk, gw, ik, hpi, r6, r11, r25, r2, r13, r22, if_pos, IntWalk.i64_in]
    simpa using ih

/-- Words added to the first ones. -/
def ad (A B : List (BitVec 32)) (i : Nat) : List (BitVec 32) := tab (fun p => if p < i then nth A p + nth B p else nth A p) 8
theorem ad_len (A B : List (BitVec 32)) (i : Nat) : (ad A B i).length = 8 := by simp [ad]
theorem ad_zero (A B : List (BitVec 32)) (h : A.length = 8) : ad A B 0 = A := tab_eq _ _ _ h fun i hi => by simp
theorem ad_nth (A B : List (BitVec 32)) (i : Nat) (h : i < 8) : nth (ad A B i) i = nth A i := by rw [ad, nth_tab _ _ _ h, if_neg (by omega)]
theorem ad_set (A B : List (BitVec 32)) (i : Nat) (h : i < 8) : (ad A B i).set i (nth A i + nth B i) = ad A B (i + 1) := by
  refine nth_ext (by simp [ad]) fun p hp => ?_
  simp [ad] at hp
  rw [nth_set _ _ _ _ (by rw [ad_len]; omega), ad, nth_tab _ _ _ hp, ad, nth_tab _ _ _ hp]
  by_cases h1 : i = p
  · subst h1; simp
  · rw [if_neg h1]
    by_cases h2 : p < i
    · rw [if_pos h2, if_pos (by omega)]
    · rw [if_neg h2, if_neg (by omega)]
theorem ad_all (v u : H8) : ad v.l u.l 8 = (v.add u).l := rfl

theorem l43_1 (C : Det.Calls) (M : Mem) (d id : Nat) (hd : d < M.length) (A B : List (BitVec 32)) (hB : B.length = 8) (r : List UInt8) (sz : Int) (j : Nat) : ∀ (i n : Nat), i + j = 8 → j < n →
    fgt a43_1 (rnd0 (some (e43_1 (.ptr (some ⟨d, id, 10, 0⟩)) (.agg (B.map u32)) (.int .i64 i), mk [] :: put M d id (.cells ((ad A B i).map u32 ++ [AV.str r, AV.int .i64 sz]) true true))) k43_1 C s43_b1 n) =
      some (.exit 2, x43_1, mk [] :: put M d id (.cells ((ad A B 8).map u32 ++ [AV.str r, AV.int .i64 sz]) true true)) := by
  have hn1 : d ≠ M.length := by omega
  induction j with
  | zero =>
    intro i n h hn
    obtain rfl : i = 8 := by omega
    obtain ⟨n, rfl⟩ : ∃ m, n = m + 1 := ⟨n - 1, by omega⟩
    generalize (ad A B 8).map u32 ++ [AV.str r, AV.int .i64 sz] = V at *
    generalize B.map u32 = Z at *
    rw [rnd0_some]
    conv => lhs; arg 2; arg 1; rw [s43_b1]
    simp (disch := omega) [put_length]
  | succ j ih0 =>
    intro i n h hn
    obtain ⟨n, rfl⟩ : ∃ m, n = m + 1 := ⟨n - 1, by omega⟩
    have hi : i < 8 := by omega
    have ih := ih0 (i + 1) n (by omega) (by omega)
    have hl := ad_len A B i
    have hl2 := ad_len A B (i + 1)
    have gB : (B.map u32)[i]? = some (u32 (nth B i)) := by rw [List.getElem?_map, getElem?_nth B i (by omega)]; rfl
    have gA : ((ad A B i).map u32 ++ [AV.str r, AV.int .i64 sz])[i]? = some (u32 (nth A i)) := by
      rw [List.getElem?_append_left (by rw [List.length_map, hl]; omega), List.getElem?_map, getElem?_nth _ i (by omega), ad_nth A B i hi]; rfl
    have hset : ((ad A B i).map u32 ++ [AV.str r, AV.int .i64 sz]).set i (u32 (nth A i + nth B i)) = (ad A B (i + 1)).map u32 ++ [AV.str r, AV.int .i64 sz] := by
      rw [List.set_append_left _ _ (by rw [List.length_map, hl]; omega), ← List.map_set, ad_set A B i hi]
    have lB : (B.map u32).length = 8 := by rw [List.length_map, hB]
    have iB : AV.idss M.length (B.map u32) = [] := by simp
    have l1 : ((ad A B i).map u32 ++ [AV.str r, AV.int .i64 sz]).length = 10 := by simp [hl]
    have l2 : ((ad A B (i + 1)).map u32 ++ [AV.str r, AV.int .i64 sz]).length = 10 := by simp [hl2]
    generalize (ad A B 8).map u32 ++ [AV.str r, AV.int .i64 sz] = V8 at *
    generalize (ad A B (i + 1)).map u32 ++ [AV.str r, AV.int .i64 sz] = V2 at *
    generalize (ad A B i).map u32 ++ [AV.str r, AV.int .i64 sz] = V1 at *
    generalize B.map u32 = BC at *
    generalize nth A i = x at *
    generalize nth B i = y at *
    have gA := cell_at gA
    have gB := cell_at gB
    rw [rnd0_some]
    conv => lhs; arg 2; arg 1; rw [s43_b1]
    simp (disch := first | omega | (simp only [put_length]; omega)) [-List.map_set, hi, hn1, lB, iB, l1, gA, gB, hset, put_length, get_low, put_low, get_put hd, put_put, if_pos, IntWalk.i64_in]
    simpa using ih

/-- A block more. -/
theorem take_ev (h43 : SP.fn n43 = some (s43 g3 n60 n61)) (h60 : SP.fn n60 = some (s60 n61 n71)) (h71 : SP.fn n71 = some (W.s14 n80 n81)) (h80 : SP.fn n80 = some W.s25) (h81 : SP.fn n81 = some W.s27) (h61 : SP.fn n61 = some (W.s19 n72)) (h72 : SP.fn n72 = some W.s17)
    (k : Nat) (M : Mem) (K : List (BitVec 32)) (hK : K.length = 64) (v0 : H8) (hG : Gl K v0 g1 g3 M) (d id : Nat) (hd : d < M.length) (v : H8) (r : List UInt8) (sz : Int) (hg : ∀ o, get M ⟨d, id, 10, o⟩ = some (.cells (hc v r sz) true true)) (hput : put M d id (.cells (hc v r sz) true true) = M) (s : List UInt8) (hs : s.length = 64) :
    callFn SP (k + 5) n43 [.ptr (some ⟨d, id, 10, 0⟩), .str s] M = some (.undef, [], put M d id (.cells (hc (blk K v s) r sz) true true)) := by
  have hn1 : d ≠ M.length := by omega
  have hsc := fun k M => sched_ev h60 h71 h80 h81 h61 h72 k M s hs
  have l0 := l43_0 h61 h72 (k + 2) M (.ptr (some ⟨d, id, 10, 0⟩)) (by simp [hn1]) K (sch s 48) hK (sch_len s 48) v 64 0 65 rfl (by omega)
  rw [show rd K (sch s 48) v 0 = v from rfl] at l0
  have l1 := l43_1 (callFn SP (k + 4)) M d id hd v.l (rd K (sch s 48) v 64).l rfl r sz 8 0 9 rfl (by omega)
  rw [ad_zero _ _ rfl, ad_all] at l1
  rw [show v.add (rd K (sch s 48) v 64) = blk K v s from rfl] at l1
  have hcl : (hc v r sz).length = 10 := rfl
  have htk : (hc v r sz).take 8 = v.l.map u32 := rfl
  have hG3 := hG.2.2
  have h0 := hG.1
  have lk : (K.map u32).length = 64 := by rw [List.length_map, hK]
  have lw : ((sch s 48).map u32).length = 64 := by rw [List.length_map, sch_len]
  have lr : ((rd K (sch s 48) v 64).l.map u32).length = 8 := rfl
  have hdr : (hc v r sz).drop 0 = hc v r sz := rfl
  rw [show v.l.map u32 ++ [AV.str r, AV.int .i64 sz] = hc v r sz from rfl, hput, show (blk K v s).l.map u32 ++ [AV.str r, AV.int .i64 sz] = hc (blk K v s) r sz from rfl] at l1
  generalize hc (blk K v s) r sz = X at *
  have hvl : (v.l.map u32).length = 8 := rfl
  have uvl : AV.unders 0 (v.l.map u32) = true := by simp
  generalize (rd K (sch s 48) v 64).l = R at *
  have uw : AV.unders 0 ((sch s 48).map u32) = true := by simp
  have tw : ((sch s 48).map u32).take 64 = (sch s 48).map u32 := List.take_of_length_le (by omega)
  have tkk : (K.map u32).take 64 = K.map u32 := List.take_of_length_le (by omega)
  have tr : (R.map u32).take 8 = R.map u32 := List.take_of_length_le (by omega)
  generalize v.l = VL at *
  generalize sch s 48 = S at *
  generalize hc v r sz = HC at *
  rw [call_fn (h43.trans rfl) (by simp)]
  simp (disch := omega) [hn1, hsc, get_low, hd, hg, htk, hcl, hdr, lw, lk, hvl, uvl, uw, tw, tkk, hG3, h0]
  rw [ev_loop 65 (by simp [hn1]) l0 (by omega)]
  simp (disch := omega) [hn1, lr, tr]
  rw [ev_loop 9 (by simp [hn1]) l1 (by omega)]
  simp (disch := omega) []
end
end Go.Det.S
