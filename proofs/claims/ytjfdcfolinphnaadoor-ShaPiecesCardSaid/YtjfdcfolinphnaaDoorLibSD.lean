/-
  LIB, sha, part D: the digest of a text, the program's; the document's words of a block.
-/
import Derived.Test.YtjfdcfolinphnaaDoorLibSC
set_option maxRecDepth 100000
set_option maxHeartbeats 1000000
set_option linter.unusedSimpArgs false
set_option linter.unusedVariables false
namespace Go.Det.S
open Go.Det

section
variable {SP : SProg} {n16 n18 n20 n21 n22 n23 n24 n25 n40 n41 n43 n44 n45 n60 n61 n71 n72 n80 n81 : Nat} {g1 g3 : Nat}

theorem st_nil (K : List (BitVec 32)) (v : H8) : st K v [] = hc v [] 0 := rfl

theorem shasum_ev (h16 : SP.fn n16 = some (s16 n22 n23 n24)) (h22 : SP.fn n22 = some (s22 g1)) (h24 : SP.fn n24 = some (s24 n23 n44 n45)) (h44 : SP.fn n44 = none) (ho : SP.ora = repO n44) (h45 : SP.fn n45 = some W.s23)
    (h23 : SP.fn n23 = some (s23 n43)) (h43 : SP.fn n43 = some (s43 g3 n60 n61)) (h60 : SP.fn n60 = some (s60 n61 n71)) (h71 : SP.fn n71 = some (W.s14 n80 n81)) (h80 : SP.fn n80 = some W.s25) (h81 : SP.fn n81 = some W.s27) (h61 : SP.fn n61 = some (W.s19 n72)) (h72 : SP.fn n72 = some W.s17)
    (k : Nat) (M : Mem) (K : List (BitVec 32)) (hK : K.length = 64) (v0 : H8) (hG : Gl K v0 g1 g3 M) (s : List UInt8) (hs : s.length < 2 ^ 45) : callFn SP (k + 8) n16 [.str s] M = some (.str (dg K v0 s), [], M) := by
  have hn := fun k (M : Mem) hG => new_ev (g3 := g3) h22 k M K v0 hG
  have hw := fun k (M : Mem) hG d hdm l => write_top (g1 := g1) h23 h43 h60 h71 h80 h81 h61 h72 k M K hK v0 hG d 4000 hdm [] s (by simp) (by omega) l
  have hsm := fun k (M : Mem) hG d hd rw_ fl hg => sum_ev (g1 := g1) h24 h44 ho h45 h23 h43 h60 h71 h80 h81 h61 h72 k M K hK v0 hG d 4000 hd s hs rw_ fl hg
  have hG1 := (hG.cons (mk [])).ro
  have hw2 := fun k l => hw k M hG M.length rfl l
  simp only [st_nil, List.nil_append] at hw2
  have hn1 := fun k => hn k (mk [] :: Det.ro M) (hG.ro.cons _)
  have hq : ∀ k, callFn SP (k + 7) n24 [.ptr (some ⟨M.length, 4000, 10, 0⟩)] (mk [(4000, .cells (st K v0 s) false true)] :: Det.ro M) = some (.str (dg K v0 s), [], mk [(4000, .cells (st K v0 s) false true)] :: Det.ro M) := fun k =>
    hsm k _ (hG.ro.cons _) M.length (by simp [ro_length]) false true (fun o => by
      have := get_top (mk [(4000, Con.cells (st K v0 s) false true)]) (Det.ro M) 4000 10 o
      rw [ro_length] at this
      rw [this, mk_cons, if_pos rfl]; rfl)
  have hul : (hc v0 [] 0).length = 10 := rfl
  generalize st K v0 s = S at *
  generalize hc v0 [] 0 = HC at *
  rw [call_fn (h16.trans rfl) (by simp)]
  simp (disch := first | omega | (simp; done) | (simp; omega)) [hn1, hw2, hq, hul]

end

section
variable {SP : SProg} {n17 n19 n40 n41 n42 n55 n56 n57 n58 n59 n70 : Nat} {g0 g2 : Nat}

theorem shr3 (x : BitVec 32) : x / 8#32 = x >>> 3 := by
  apply BitVec.eq_of_toNat_eq
  rw [BitVec.toNat_udiv, BitVec.toNat_ushiftRight, Nat.shiftRight_eq_div_pow]; rfl
theorem shr10 (x : BitVec 32) : x / 1024#32 = x >>> 10 := by
  apply BitVec.eq_of_toNat_eq
  rw [BitVec.toNat_udiv, BitVec.toNat_ushiftRight, Nat.shiftRight_eq_div_pow]; rfl
theorem not_sub (x : BitVec 32) : 4294967295#32 - x = ~~~x := by
  apply BitVec.eq_of_toNat_eq
  rw [BitVec.toNat_sub, BitVec.toNat_not]
  have := x.isLt
  show (4294967296 - x.toNat + 4294967295) % 4294967296 = 4294967296 - 1 - x.toNat
  omega

theorem rr_ev (h70 : SP.fn n70 = some W.s20) (k : Nat) (M : Mem) (x : BitVec 32) (n : Int) (p : Nat) (hp : (31 * W.tn n) % 32 = p % 32) (hn : -9223372036854775808 ≤ n ∧ n ≤ 9223372036854775807) : callFn SP (k + 1) n70 [u32 x, .int .i64 n] M = some (u32 (W.rot x p), [], M) := by
  rw [W.refright_ev h70 k M x n hn, W.rot_eq x _ _ hp]

theorem moved_a (h56 : SP.fn n56 = some (s56 n70)) (h70 : SP.fn n70 = some W.s20) (k : Nat) (M : Mem) (x : BitVec 32) : callFn SP (k + 2) n56 [u32 x, .int .i64 7, .int .i64 18, u32 8#32] M = some (u32 (sm x 25 14 3), [], M) := by
  have r1 := fun k M => rr_ev h70 k M x 7 25 (by decide) (by decide)
  have r2 := fun k M => rr_ev h70 k M x 18 14 (by decide) (by decide)
  have hd : ¬ (8#32 = 0#32) := by decide
  rw [call_fn (h56.trans rfl) (by simp)]
  simp (disch := omega) [r1, r2, hd, shr3, sm]
theorem moved_b (h56 : SP.fn n56 = some (s56 n70)) (h70 : SP.fn n70 = some W.s20) (k : Nat) (M : Mem) (x : BitVec 32) : callFn SP (k + 2) n56 [u32 x, .int .i64 17, .int .i64 19, u32 1024#32] M = some (u32 (sm x 15 13 10), [], M) := by
  have r1 := fun k M => rr_ev h70 k M x 17 15 (by decide) (by decide)
  have r2 := fun k M => rr_ev h70 k M x 19 13 (by decide) (by decide)
  have hd : ¬ (1024#32 = 0#32) := by decide
  rw [call_fn (h56.trans rfl) (by simp)]
  simp (disch := omega) [r1, r2, hd, shr10, sm]
theorem turned_a (h57 : SP.fn n57 = some (s57 n70)) (h70 : SP.fn n70 = some W.s20) (k : Nat) (M : Mem) (x : BitVec 32) : callFn SP (k + 2) n57 [u32 x, .int .i64 6, .int .i64 11, .int .i64 25] M = some (u32 (sg x 26 21 7), [], M) := by
  have r1 := fun k M => rr_ev h70 k M x 6 26 (by decide) (by decide)
  have r2 := fun k M => rr_ev h70 k M x 11 21 (by decide) (by decide)
  have r3 := fun k M => rr_ev h70 k M x 25 7 (by decide) (by decide)
  rw [call_fn (h57.trans rfl) (by simp)]
  simp (disch := omega) [r1, r2, r3, sg]
theorem turned_b (h57 : SP.fn n57 = some (s57 n70)) (h70 : SP.fn n70 = some W.s20) (k : Nat) (M : Mem) (x : BitVec 32) : callFn SP (k + 2) n57 [u32 x, .int .i64 2, .int .i64 13, .int .i64 22] M = some (u32 (sg x 30 19 10), [], M) := by
  have r1 := fun k M => rr_ev h70 k M x 2 30 (by decide) (by decide)
  have r2 := fun k M => rr_ev h70 k M x 13 19 (by decide) (by decide)
  have r3 := fun k M => rr_ev h70 k M x 22 10 (by decide) (by decide)
  rw [call_fn (h57.trans rfl) (by simp)]
  simp (disch := omega) [r1, r2, r3, sg]
theorem pick_ev (h58 : SP.fn n58 = some s58) (k : Nat) (M : Mem) (x y z : BitVec 32) : callFn SP (k + 1) n58 [u32 x, u32 y, u32 z] M = some (u32 (x &&& y ^^^ ~~~x &&& z), [], M) := by
  rw [call_fn (h58.trans rfl) (by simp)]
  simp (disch := omega) [not_sub]
theorem most_ev (h59 : SP.fn n59 = some s59) (k : Nat) (M : Mem) (x y z : BitVec 32) : callFn SP (k + 1) n59 [u32 x, u32 y, u32 z] M = some (u32 (x &&& y ^^^ x &&& z ^^^ y &&& z), [], M) := by
  rw [call_fn (h59.trans rfl) (by simp)]
  simp (disch := omega) []

/-- The words of a block. -/
theorem l41_0 (h56 : SP.fn n56 = some (s56 n70)) (h70 : SP.fn n70 = some W.s20) (k : Nat) (M : Mem) (s : List UInt8) (A B : List AV) (fa fb_ : Bool) (j : Nat) : ∀ (i t n : Nat), i + j = 48 → t = 16 + i → j < n →
    fgt a41_0 (rnd0 (some (e41_0 (.ptr (some ⟨M.length, 0, 8, 0⟩)) (.ptr (some ⟨M.length, 4, 8, 0⟩)) (.slice (some ⟨M.length, 4004, t, 0⟩) t 1) (.int .i64 t), mk [(0, .cells A true true), (4, .cells B true true), (4004, .cells ((sch s i).map u32) true true)] :: M)) k41_0 (callFn SP (k + 2)) (s41_b0 n56) n) =
      some (.exit 0, x41_0 (.ptr (some ⟨M.length, 0, 8, 0⟩)) (.ptr (some ⟨M.length, 4, 8, 0⟩)) (.slice (some ⟨M.length, 4004, 64, 0⟩) 64 1), mk [(0, .cells A true true), (4, .cells B true true), (4004, .cells ((sch s 48).map u32) true true)] :: M) := by
  induction j with
  | zero =>
    intro i t n h ht hn
    obtain rfl : i = 48 := by omega
    obtain rfl : t = 64 := by omega
    obtain ⟨n, rfl⟩ : ∃ m, n = m + 1 := ⟨n - 1, by omega⟩
    generalize sch s 48 = S at *
    rw [rnd0_some]
    conv => lhs; arg 2; arg 1; rw [s41_b0]
    simp (disch := omega) []
  | succ j ih0 =>
    intro i t n h ht hn
    obtain ⟨n, rfl⟩ : ∃ m, n = m + 1 := ⟨n - 1, by omega⟩
    have hi : i < 48 := by omega
    have ih := ih0 (i + 1) (t + 1) n (by omega) (by omega) (by omega)
    have ma := fun k M x => moved_a h56 h70 k M x
    have mb := fun k M x => moved_b h56 h70 k M x
    have hl := sch_len s i
    rw [← ht] at hl
    have gt : ∀ k, k < 16 + i → ((sch s i).map u32)[k]? = some (u32 (nth (sch s i) k)) := fun k hk => by
      rw [List.getElem?_map, getElem?_nth (sch s i) k (by omega)]; rfl
    have e1 : sch s (i + 1) = sch s i ++ [nw (sch s i) t] := by rw [sch, ht]
    rw [← ht] at gt
    rw [e1] at ih
    obtain ⟨u1, hu1⟩ : ∃ u, t - 15 = u := ⟨_, rfl⟩
    obtain ⟨u2, hu2⟩ : ∃ u, t - 2 = u := ⟨_, rfl⟩
    obtain ⟨u3, hu3⟩ : ∃ u, t - 16 = u := ⟨_, rfl⟩
    obtain ⟨u4, hu4⟩ : ∃ u, t - 7 = u := ⟨_, rfl⟩
    have g1 := cell_at (gt u1 (by omega))
    have g2 := cell_at (gt u2 (by omega))
    have g3 := cell_at (gt u3 (by omega))
    have g4 := cell_at (gt u4 (by omega))
    have ew : nw (sch s i) t = sm (nth (sch s i) u2) 15 13 10 + nth (sch s i) u4 + sm (nth (sch s i) u1) 25 14 3 + nth (sch s i) u3 := by
      rw [nw, hu1, hu2, hu3, hu4]; ac_rfl
    rw [ew] at ih
    have w1 : IntKind.wrap .i64 ((t : Int) - 15) = (u1 : Int) := by rw [IntWalk.i64_in _ (by omega)]; omega
    have w2 : IntKind.wrap .i64 ((t : Int) - 2) = (u2 : Int) := by rw [IntWalk.i64_in _ (by omega)]; omega
    have w3 : IntKind.wrap .i64 ((t : Int) - 16) = (u3 : Int) := by rw [IntWalk.i64_in _ (by omega)]; omega
    have w4 : IntKind.wrap .i64 ((t : Int) - 7) = (u4 : Int) := by rw [IntWalk.i64_in _ (by omega)]; omega
    have b0 : t < 64 := by omega
    have b1 : u1 < t := by omega
    have b2 : u2 < t := by omega
    have b3 : u3 < t := by omega
    have b4 : u4 < t := by omega
    generalize nth (sch s i) u3 = x0 at *
    generalize nth (sch s i) u1 = x1 at *
    generalize nth (sch s i) u4 = x9 at *
    generalize nth (sch s i) u2 = x14 at *
    clear gt ih0 e1 ew
    generalize sch s 48 = S at *
    rw [List.map_append] at ih
    have hl' : ((sch s i).map u32).length = t := by rw [List.length_map, hl]
    have hu : AV.unders 0 ((sch s i).map u32) = true := by simp
    clear hl
    generalize (sch s i).map u32 = Q1 at *
    obtain ⟨Y, hY⟩ : ∃ Y, sm x14 15 13 10 + x9 + sm x1 25 14 3 + x0 = Y := ⟨_, rfl⟩
    rw [hY] at ih
    simp only [List.map_cons, List.map_nil] at ih
    rw [rnd0_some]
    conv => lhs; arg 2; arg 1; rw [s41_b0]
    simp (disch := omega) [-List.getElem?_map, hl', w1, w2, w3, w4, b0, b1, b2, b3, b4, g1, g2, g3, g4, ma, mb, hY, hu, if_pos, IntWalk.i64_in]
    simpa using ih
end
end Go.Det.S
