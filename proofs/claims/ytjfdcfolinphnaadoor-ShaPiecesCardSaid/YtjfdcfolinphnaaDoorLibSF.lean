/-
  LIB, sha, part F: the document's digest; each kind of text.
-/
import Derived.Test.YtjfdcfolinphnaaDoorLibSE
import Derived.Test.YtjfdcfolinphnaaDoorDetT
set_option maxRecDepth 100000
set_option maxHeartbeats 1000000
set_option linter.unusedSimpArgs false
set_option linter.unusedVariables false
namespace Go.Det.S
open Go.Det

section
variable {SP : SProg} {n15 n16 n17 n19 n22 n23 n24 n40 n41 n42 n43 n44 n45 n55 n56 n57 n58 n59 n60 n61 n70 n71 n72 n80 n81 : Nat} {g0 g1 g2 g3 : Nat}

/-- The blocks. -/
theorem l17_0 (h41 : SP.fn n41 = some (s41 g2 n55 n56 n57 n58 n59)) (h55 : SP.fn n55 = some W.s13) (h56 : SP.fn n56 = some (s56 n70)) (h57 : SP.fn n57 = some (s57 n70)) (h58 : SP.fn n58 = some s58) (h59 : SP.fn n59 = some s59) (h70 : SP.fn n70 = some W.s20)
    (k : Nat) (M : Mem) (K : List (BitVec 32)) (hK : K.length = 64) (v0 : H8) (hG : Gl K v0 g0 g2 M) (s : List UInt8) (hs : s.length < 2 ^ 45) (m : Nat) (hm : s.length = 64 * m) (j : Nat) : ∀ (i n : Nat), i + j = m → j < n →
    fgt a17_0 (rnd0 (some (e17_0 (.str s) (.ptr (some ⟨M.length, 8004, 8, 0⟩)) (.int .i64 ((64 * i : Nat) : Int)), mk [(8004, .cells ((Det.S.hs K v0 s i).l.map u32) true true)] :: M)) k17_0 (callFn SP (k + 4)) (s17_b0 n41) n) =
      some (.exit 0, x17_0 (.ptr (some ⟨M.length, 8004, 8, 0⟩)), mk [(8004, .cells ((Det.S.hs K v0 s m).l.map u32) true true)] :: M) := by
  induction j with
  | zero =>
    intro i n h hn
    obtain rfl : i = m := by omega
    obtain ⟨n, rfl⟩ : ∃ m, n = m + 1 := ⟨n - 1, by omega⟩
    have hi : ¬ 64 * (i : Int) < (s.length : Int) := by omega
    generalize (Det.S.hs K v0 s i).l.map u32 = C at *
    rw [rnd0_some]
    conv => lhs; arg 2; arg 1; rw [s17_b0]
    simp (disch := omega) [hi]
  | succ j ih0 =>
    intro i n h hn
    obtain ⟨n, rfl⟩ : ∃ m, n = m + 1 := ⟨n - 1, by omega⟩
    have ih := ih0 (i + 1) n (by omega) (by omega)
    rw [show ((64 * (i + 1) : Nat) : Int) = 64 * (i : Int) + 64 by omega] at ih
    have hi : 64 * (i : Int) < (s.length : Int) := by omega
    have hb := fun l => block_ev (g0 := g0) h41 h55 h56 h57 h58 h59 h70 k (mk l :: ro M) K hK v0 (hG.ro.cons (mk l)) (Det.S.hs K v0 s i) ((s.drop (64 * i)).take 64) (by rw [List.length_take, List.length_drop]; omega)
    have e1 : (64 * (i : Int) + 64).toNat = 64 * i + 64 := by omega
    have e2 : (64 * (i : Int)).toNat = 64 * i := by omega
    have e3 : IntKind.wrap .i64 (64 * (i : Int) + 64) = 64 * (i : Int) + 64 := IntWalk.i64_in _ (by omega)
    rw [show Det.S.hs K v0 s (i + 1) = blk K (Det.S.hs K v0 s i) ((s.drop (64 * i)).take 64) from rfl] at ih
    have ti : (s.take (64 * i + 64)).drop (64 * i) = (s.drop (64 * i)).take 64 := by rw [List.drop_take]; congr 1; omega
    have tl1 : 64 * i + 64 ≤ s.length := by omega
    generalize Det.S.hs K v0 s m = Vm at *
    generalize blk K (Det.S.hs K v0 s i) ((s.drop (64 * i)).take 64) = V2 at *
    generalize Det.S.hs K v0 s i = V1 at *
    have lV1 : V1.l.length = 8 := rfl
    have lV2 : V2.l.length = 8 := rfl
    have tV1 : (V1.l.map u32).take 8 = V1.l.map u32 := rfl
    have dV1 : (V1.l.map u32).drop 8 = [] := rfl
    have tV2 : (V2.l.map u32).take 8 = V2.l.map u32 := rfl
    rw [rnd0_some]
    conv => lhs; arg 2; arg 1; rw [s17_b0]
    simp (disch := first | omega | (simp; done) | (simp; omega)) [hi, e1, e2, e3, ti, hb, lV1, lV2, tV1, dV1, tV2, if_pos]
    simpa using ih

/-- The words of a state, listed. -/
theorem l17_1 (C : Det.Calls) (M : Mem) (a b c d e f g h : BitVec 32) :
    fgt a17_1 (rnd0 (some (e17_1 (.ptr (some ⟨M.length, 8004, 8, 0⟩)) (.slice none 0 0) (.int .i64 0), mk [(8004, .cells ((H8.mk a b c d e f g h).l.map u32) true true)] :: M)) k17_1 C s17_b1 9) =
      some (.exit 2, x17_1 (.slice (some ⟨M.length, 44020, 8, 0⟩) 8 1), mk [(44020, .cells ((H8.mk a b c d e f g h).l.map u32) true true)] :: M) := by
  simp only [H8.l, List.map_cons, List.map_nil]
  have w1 : IntKind.wrap .i64 1 = 1 := rfl
  have w2 : IntKind.wrap .i64 2 = 2 := rfl
  have w3 : IntKind.wrap .i64 3 = 3 := rfl
  have w4 : IntKind.wrap .i64 4 = 4 := rfl
  have w5 : IntKind.wrap .i64 5 = 5 := rfl
  have w6 : IntKind.wrap .i64 6 = 6 := rfl
  have w7 : IntKind.wrap .i64 7 = 7 := rfl
  have w8 : IntKind.wrap .i64 8 = 8 := rfl
  iterate 9
    rw [rnd0_some]
    conv => lhs; arg 2; arg 1; rw [s17_b1]
    simp (disch := first | omega | (simp; done) | (simp; omega)) [w1, w2, w3, w4, w5, w6, w7, w8, if_pos]

theorem refsum_ev (h17 : SP.fn n17 = some (s17 g0 n40 n41 n42)) (h40 : SP.fn n40 = some (s40 n42)) (h42 : SP.fn n42 = some W.s22) (h41 : SP.fn n41 = some (s41 g2 n55 n56 n57 n58 n59)) (h55 : SP.fn n55 = some W.s13) (h56 : SP.fn n56 = some (s56 n70)) (h57 : SP.fn n57 = some (s57 n70)) (h58 : SP.fn n58 = some s58) (h59 : SP.fn n59 = some s59) (h70 : SP.fn n70 = some W.s20)
    (k : Nat) (M : Mem) (K : List (BitVec 32)) (hK : K.length = 64) (v0 : H8) (hG : Gl K v0 g0 g2 M) (s : List UInt8) (hs : s.length < 2 ^ 40) : callFn SP (k + 5) n17 [.str s] M = some (.str (dg K v0 s), [], M) := by
  have hp := fun k M => padded_ev h40 h42 k M s hs
  have hl := pad_len s
  have q := l17_0 (g0 := g0) h41 h55 h56 h57 h58 h59 h70 k M K hK v0 hG (pad s) (by omega) ((pad s).length / 64) (by omega) ((pad s).length / 64) 0 ((pad s).length / 64 + 1) (by omega) (by omega)
  have hd : dg K v0 s = W.tx true (Det.S.hs K v0 (pad s) ((pad s).length / 64)).l := rfl
  have hg := hG.2.1
  have h0 := hG.1
  rw [hd]
  rw [show Det.S.hs K v0 (pad s) 0 = v0 from rfl, show ((64 * 0 : Nat) : Int) = 0 from rfl] at q
  generalize Det.S.hs K v0 (pad s) ((pad s).length / 64) = V at *
  have lv : v0.l.length = 8 := rfl
  have tv : (v0.l.map u32).take 8 = v0.l.map u32 := rfl
  generalize pad s = P at *
  obtain ⟨a, b, c, d, e, f, g, h⟩ := V
  have q2 := l17_1 (callFn SP (k + 4)) M a b c d e f g h
  rw [call_fn (h17.trans rfl) (by simp)]
  simp (disch := first | omega | (simp; done) | (simp; omega)) [hp, hg, h0, get_low, lv, tv, if_pos]
  rw [ev_loop (P.length / 64 + 1) (by simp) q (by omega)]
  simp (disch := omega) []
  rw [ev_loop 9 (by simp) q2 (by omega)]
  simp (disch := omega) []
  rw [W.reftext_ev (SP := SP) (n22 := n42) h42]
  case hv => exact WS.top' (l := [a, b, c, d, e, f, g, h]) rfl (by simp) rfl rfl
  case hN => simp
  simp (disch := first | omega | (simp; done) | (simp; omega)) [if_pos, H8.l]
end
end Go.Det.S
