/-
  LIB, sha, part E: the document's digest of a text.
-/
import Derived.Test.YtjfdcfolinphnaaDoorLibSD
set_option maxRecDepth 100000
set_option maxHeartbeats 1000000
set_option linter.unusedSimpArgs false
set_option linter.unusedVariables false
namespace Go.Det.S
open Go.Det

section
variable {SP : SProg} {n17 n19 n40 n41 n42 n55 n56 n57 n58 n59 n70 : Nat} {g0 g2 : Nat}

/-- The rounds. -/
theorem l41_1 (h57 : SP.fn n57 = some (s57 n70)) (h58 : SP.fn n58 = some s58) (h59 : SP.fn n59 = some s59) (h70 : SP.fn n70 = some W.s20) (k : Nat) (M : Mem) (K Wl : List (BitVec 32)) (hK : K.length = 64) (hW : Wl.length = 64) (v0 vz : H8) (hG : Gl K vz g0 g2 M) (A B : List AV) (j : Nat) : ∀ (i n : Nat), i + j = 64 → j < n →
    fgt a41_1 (rnd0 (some (e41_1 (.ptr (some ⟨M.length, 0, 8, 0⟩)) (.ptr (some ⟨M.length, 4, 8, 0⟩)) (.slice (some ⟨M.length, 4004, 64, 0⟩) 64 1) (u32 (rd K Wl v0 i).a) (u32 (rd K Wl v0 i).b) (u32 (rd K Wl v0 i).c) (u32 (rd K Wl v0 i).d) (u32 (rd K Wl v0 i).e) (u32 (rd K Wl v0 i).f) (u32 (rd K Wl v0 i).g) (u32 (rd K Wl v0 i).h) (.int .i64 i),
        mk [(0, .cells A true true), (4, .cells B true true), (4004, .cells (Wl.map u32) true true)] :: M)) k41_1 (callFn SP (k + 2)) (s41_b1 g2 n57 n58 n59) n) =
      some (.exit 2, x41_1 (.ptr (some ⟨M.length, 0, 8, 0⟩)) (.ptr (some ⟨M.length, 4, 8, 0⟩)) (u32 (rd K Wl v0 64).a) (u32 (rd K Wl v0 64).b) (u32 (rd K Wl v0 64).c) (u32 (rd K Wl v0 64).d) (u32 (rd K Wl v0 64).e) (u32 (rd K Wl v0 64).f) (u32 (rd K Wl v0 64).g) (u32 (rd K Wl v0 64).h),
        mk [(0, .cells A true true), (4, .cells B true true)] :: M) := by
  induction j with
  | zero =>
    intro i n h hn
    obtain rfl : i = 64 := by omega
    obtain ⟨n, rfl⟩ : ∃ m, n = m + 1 := ⟨n - 1, by omega⟩
    generalize rd K Wl v0 64 = V at *
    generalize Wl.map u32 = Z at *
    rw [rnd0_some]
    conv => lhs; arg 2; arg 1; rw [s41_b1]
    simp (disch := omega) []
  | succ j ih0 =>
    intro i n h hn
    obtain ⟨n, rfl⟩ : ∃ m, n = m + 1 := ⟨n - 1, by omega⟩
    have hi : i < 64 := by omega
    have ih := ih0 (i + 1) n (by omega) (by omega)
    have ta := fun k M x => turned_a h57 h70 k M x
    have tb := fun k M x => turned_b h57 h70 k M x
    have pk := fun k M x y z => pick_ev h58 k M x y z
    have ms := fun k M x y z => most_ev h59 k M x y z
    have gk : (K.map u32)[i]? = some (u32 (nth K i)) := by rw [List.getElem?_map, getElem?_nth K i (by omega)]; rfl
    have gw : (Wl.map u32)[i]? = some (u32 (nth Wl i)) := by rw [List.getElem?_map, getElem?_nth Wl i (by omega)]; rfl
    have lk : (K.map u32).length = 64 := by rw [List.length_map, hK]
    have lw : (Wl.map u32).length = 64 := by rw [List.length_map, hW]
    have hg2 := hG.2.2
    have h0 := hG.1
    rw [show rd K Wl v0 (i + 1) = stp (rd K Wl v0 i) (nth K i) (nth Wl i) from rfl] at ih
    generalize rd K Wl v0 64 = V64 at *
    clear ih0
    generalize rd K Wl v0 i = v at *
    obtain ⟨a, b, c, d, e, f, g, hh⟩ := v
    have e1 : hh + sg e 26 21 7 + (e &&& f ^^^ ~~~e &&& g) + nth K i + nth Wl i + (sg a 30 19 10 + (a &&& b ^^^ a &&& c ^^^ b &&& c)) = hh + sg e 26 21 7 + (e &&& f ^^^ ~~~e &&& g) + nth K i + nth Wl i + (sg a 30 19 10 + (a &&& b ^^^ a &&& c ^^^ b &&& c)) := rfl
    generalize nth K i = kk at *
    generalize nth Wl i = ww at *
    have gk := cell_at gk
    have gw := cell_at gw
    generalize K.map u32 = KC at *
    generalize Wl.map u32 = WC at *
    simp only [stp] at ih ⊢
    rw [rnd0_some]
    conv => lhs; arg 2; arg 1; rw [s41_b1]
    simp (disch := first | omega | (simp; done) | (simp; omega)) [hi, get_low, lk, lw, gk, gw, hg2, h0, ta, tb, pk, ms, if_pos, IntWalk.i64_in]
    simpa using ih

theorem block_ev (h41 : SP.fn n41 = some (s41 g2 n55 n56 n57 n58 n59)) (h55 : SP.fn n55 = some W.s13) (h56 : SP.fn n56 = some (s56 n70)) (h57 : SP.fn n57 = some (s57 n70)) (h58 : SP.fn n58 = some s58) (h59 : SP.fn n59 = some s59) (h70 : SP.fn n70 = some W.s20)
    (k : Nat) (M : Mem) (K : List (BitVec 32)) (hK : K.length = 64) (vz : H8) (hG : Gl K vz g0 g2 M) (v : H8) (s : List UInt8) (hs : s.length = 64) : callFn SP (k + 4) n41 [.agg (v.l.map u32), .str s] M = some (.agg ((blk K v s).l.map u32), [], M) := by
  have hw := fun k M => W.refwords_ev h55 k M true s 16 (by omega) (by omega) (by omega)
  rw [show tab (W.wat true s) 16 = sch s 0 from rfl] at hw
  have q0 := l41_0 h56 h70 (k + 1) M s (v.l.map u32) [u32 0#32, u32 0#32, u32 0#32, u32 0#32, u32 0#32, u32 0#32, u32 0#32, u32 0#32] true true 48 0 16 49 rfl rfl (by omega)
  have q1 := l41_1 h57 h58 h59 h70 (k + 1) M K (sch s 48) hK (sch_len s 48) v vz hG (v.l.map u32) [u32 0#32, u32 0#32, u32 0#32, u32 0#32, u32 0#32, u32 0#32, u32 0#32, u32 0#32] 64 0 65 rfl (by omega)
  rw [show rd K (sch s 48) v 0 = v from rfl] at q1
  rw [show blk K v s = v.add (rd K (sch s 48) v 64) from rfl]
  have h0 := sch_len s 0
  generalize rd K (sch s 48) v 64 = R at *
  generalize sch s 48 = S at *
  generalize sch s 0 = S0 at *
  obtain ⟨a, b, c, d, e, f, g, hh⟩ := v
  simp only [H8.l, H8.add, List.map_cons, List.map_nil] at q0 q1 ⊢
  rw [call_fn (h41.trans rfl) (by simp)]
  simp (disch := omega) [hw, if_pos]
  rw [ev_loop 49 (by simp) q0 (by omega)]
  simp (disch := omega) []
  rw [ev_loop 65 (by simp) q1 (by omega)]
  simp (disch := omega) []

/-! ### a text with its end -/
def zz (n : Nat) : Nat := (120 - n % 64) % 64
theorem zz_zero (n : Nat) (h : n % 64 = 56) : zz n = 0 := by unfold zz; omega
theorem zz_succ (n : Nat) (h : n % 64 ≠ 56) : zz n = zz (n + 1) + 1 := by unfold zz; omega
theorem zz_zn (n : Nat) : zz (n + 1) = zn n := by unfold zz zn; omega

theorem l40 (C : Det.Calls) (M : Mem) (s : AV) (hsi : AV.ids M.length s = []) (j : Nat) : ∀ (n : Nat) (l : List UInt8), zz l.length = j → j < n → l.length + j < 2 ^ 44 →
    fgt a40_0 (rnd0 (some (e40_0 s (.slice (some ⟨M.length, 4008, l.length, 0⟩) l.length 1), mk [(4008, .cells (l.map byteAV) true true)] :: M)) k40_0 C s40_b0 n) =
      some (.exit 0, x40_0 s (.slice (some ⟨M.length, 4008, l.length + j, 0⟩) (l.length + j) 1), mk [(4008, .cells ((l ++ List.replicate j 0).map byteAV) true true)] :: M) := by
  induction j with
  | zero =>
    intro n l hp hn hl
    have h16 : (l.length : Int) % 64 = 56 := by unfold zz at hp; omega
    obtain ⟨n, rfl⟩ : ∃ m, n = m + 1 := ⟨n - 1, by omega⟩
    rw [List.replicate_zero, List.append_nil, Nat.add_zero]
    rw [rnd0_some]
    conv => lhs; arg 2; arg 1; rw [s40_b0]
    simp (disch := omega) [h16, hsi]
  | succ j ih0 =>
    intro n l hp hn hl
    have h16 : l.length % 64 ≠ 56 := by
      intro h
      rw [zz_zero _ h] at hp
      omega
    have h16' : ¬ (l.length : Int) % 64 = 56 := by omega
    obtain ⟨n, rfl⟩ : ∃ m, n = m + 1 := ⟨n - 1, by omega⟩
    have hq := zz_succ l.length h16
    have ih := ih0 n (l ++ [0]) (by rw [List.length_append, List.length_singleton]; omega) (by omega) (by rw [List.length_append, List.length_singleton]; omega)
    rw [List.append_assoc, show [0] ++ List.replicate j (0 : UInt8) = List.replicate (j + 1) 0 from rfl] at ih
    have e : (l ++ [0]).length + j = l.length + (j + 1) := by rw [List.length_append, List.length_singleton]; omega
    rw [e] at ih
    have hal : l.length ≤ 35184372088831 := by omega
    generalize l ++ List.replicate (j + 1) 0 = P at *
    generalize l.length + (j + 1) = m at *
    rw [rnd0_some]
    conv => lhs; arg 2; arg 1; rw [s40_b0]
    simpa (disch := omega) [h16', hsi, hal, if_pos] using ih

theorem padded_ev (h40 : SP.fn n40 = some (s40 n42)) (h42 : SP.fn n42 = some W.s22) (k : Nat) (M : Mem) (s : List UInt8) (hs : s.length < 2 ^ 40) : callFn SP (k + 2) n40 [.str s] M = some (.str (pad s), [], M) := by
  have q := l40 (callFn SP (k + 1)) M (.str s) (by simp) (zn s.length) (zn s.length + 1) (s ++ [128]) (by rw [List.length_append, List.length_singleton, zz_zn]) (by omega) (by rw [List.length_append, List.length_singleton]; unfold zn; omega)
  have hz : zn s.length < 64 := Nat.mod_lt _ (by omega)
  have hpd : pad s = (s ++ [128] ++ List.replicate (zn s.length) 0) ++ bits s.length := by simp [pad, tl]
  have hbl := bits_len s.length
  have hb : bits s.length = W.tx true [BitVec.ofNat 32 (8 * s.length / 2 ^ 32), BitVec.ofNat 32 (8 * s.length)] := rfl
  have hXl : (s ++ [128] ++ List.replicate (zn s.length) 0).length = (s ++ [128]).length + zn s.length := by rw [List.length_append, List.length_replicate]
  have hX1 : (s ++ [128]).length = s.length + 1 := by simp
  rw [hX1] at q hXl
  have b1 : bytesOf (((s ++ [128] ++ List.replicate (zn s.length) 0).map byteAV).take (s.length + 1 + zn s.length)) = some (s ++ [128] ++ List.replicate (zn s.length) 0) := by
    rw [List.take_of_length_le (by rw [List.length_map]; omega), bytesOf_map]
  rw [hpd]
  generalize s ++ [128] ++ List.replicate (zn s.length) 0 = X at *
  generalize zn s.length = p at *
  have w1 : IntKind.wrap .i64 (8 * (s.length : Int)) = ((8 * s.length : Nat) : Int) := by rw [IntWalk.i64_in _ (by omega)]; omega
  have w2 : BitVec.ofInt 32 (IntKind.wrap .i64 (((8 * s.length : Nat) : Int) / 4294967296)) = BitVec.ofNat 32 (8 * s.length / 2 ^ 32) := by
    rw [IntWalk.i64_in _ (by omega), show ((8 * s.length : Nat) : Int) / 4294967296 = ((8 * s.length / 2 ^ 32 : Nat) : Int) from rfl, bv_ofInt]
  have w3 : BitVec.ofInt 32 (((8 * s.length : Nat) : Int) % 4294967296) = BitVec.ofNat 32 (8 * s.length) := by
    rw [show ((8 * s.length : Nat) : Int) % 4294967296 = ((8 * s.length % 2 ^ 32 : Nat) : Int) from rfl, bv_ofInt]
    apply BitVec.eq_of_toNat_eq
    simp only [BitVec.toNat_ofNat]
    omega
  generalize 8 * s.length = m at *
  have hal : s.length + 1 ≤ 35184372088832 := by omega
  rw [call_fn (h40.trans rfl) (by simp)]
  simp (disch := omega) [hal, if_pos]
  rw [ev_loop (p + 1) (by simp) q (by omega)]
  simp (disch := omega) [w1, w2, w3, if_pos]
  rw [W.reftext_ev (SP := SP) (n22 := n42) h42]
  case hv => exact WS.top' (l := [BitVec.ofNat 32 (m / 4294967296), BitVec.ofNat 32 m]) rfl (by simp) rfl rfl
  case hN => simp
  simp only [Nat.reducePow] at hb
  rw [← hb]
  simp (disch := omega) [b1, hXl, hbl, if_pos]
end
end Go.Det.S
