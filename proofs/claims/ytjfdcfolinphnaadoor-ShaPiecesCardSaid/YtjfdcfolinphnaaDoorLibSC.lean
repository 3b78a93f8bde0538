/-
  LIB, sha, part C: a digest under way; the digest of a text.
-/
import Derived.Test.YtjfdcfolinphnaaDoorLibSB
set_option maxRecDepth 100000
set_option maxHeartbeats 1000000
set_option linter.unusedSimpArgs false
set_option linter.unusedVariables false
namespace Go.Det.S
open Go.Det

section
variable {SP : SProg} {n16 n18 n20 n21 n22 n23 n24 n25 n40 n41 n43 n44 n45 n60 n61 n71 n72 n80 n81 : Nat} {g1 g3 : Nat}

theorem new_ev (h22 : SP.fn n22 = some (s22 g1)) (k : Nat) (M : Mem) (K : List (BitVec 32)) (v : H8) (hG : Gl K v g1 g3 M) :
    callFn SP (k + 1) n22 [] M = some (.ptr (some ⟨M.length, 0, 10, 0⟩), [.cells (hc v [] 0) true true], M) := by
  have h0 := hG.1
  have hg := hG.2.1
  have hl : (v.l.map u32).length = 8 := rfl
  have ht : (v.l.map u32).take 8 = v.l.map u32 := rfl
  have u0 : AV.unders 0 (v.l.map u32) = true := by simp
  have u1 : AV.noNils (v.l.map u32) = true := by simp
  unfold hc
  generalize v.l.map u32 = V at *
  rw [call_fn (h22.trans rfl) (by simp)]
  simp (disch := omega) [get_low, h0, hg, hl, ht, u0, u1, if_pos]

/-- The blocks of a text, one by one. -/
def fb (K : List (BitVec 32)) (v : H8) (s : List UInt8) : Nat → H8
  | 0 => v
  | j + 1 => fb K (blk K v (s.take 64)) (s.drop 64) j
theorem fb_hs (K : List (BitVec 32)) : ∀ (j : Nat) (v : H8) (s : List UInt8), fb K v s j = hs K v s j
  | 0, _, _ => rfl
  | j + 1, v, s => by
    rw [fb, fb_hs K j]
    have key : ∀ (i : Nat) (v : H8) (s : List UInt8), hs K (blk K v (s.take 64)) (s.drop 64) i = hs K v s (i + 1) := by
      intro i
      induction i with
      | zero => intro v s; rfl
      | succ i ih => intro v s; rw [hs, ih, hs, List.drop_drop]; congr 3; omega
    exact key j v s

/-- What a digest under way holds. -/
def st (K : List (BitVec 32)) (v : H8) (s : List UInt8) : List AV := hc (hs K v s (s.length / 64)) (s.drop (64 * (s.length / 64))) s.length

theorem hs_split (K : List (BitVec 32)) (v : H8) (s : List UInt8) (i : Nat) : ∀ j, hs K (hs K v s i) (s.drop (64 * i)) j = hs K v s (i + j)
  | 0 => rfl
  | j + 1 => by rw [hs, hs_split K v s i j, ← Nat.add_assoc, hs, List.drop_drop]; congr 3; omega

theorem l23 (h43 : SP.fn n43 = some (s43 g3 n60 n61)) (h60 : SP.fn n60 = some (s60 n61 n71)) (h71 : SP.fn n71 = some (W.s14 n80 n81)) (h80 : SP.fn n80 = some W.s25) (h81 : SP.fn n81 = some W.s27) (h61 : SP.fn n61 = some (W.s19 n72)) (h72 : SP.fn n72 = some W.s17)
    (k : Nat) (M : Mem) (K : List (BitVec 32)) (hK : K.length = 64) (v0 : H8) (hG : Gl K v0 g1 g3 M) (d id : Nat) (hd : d < M.length) (h0 : 0 < d) (r : List UInt8) (sz : Int) (j : Nat) : ∀ (n : Nat) (v : H8) (s : List UInt8), s.length / 64 = j → s.length < 2 ^ 48 → j < n →
    fgt a23_0 (rnd0 (some (e23_0 (.ptr (some ⟨d, id, 10, 0⟩)) (.str s), mk [] :: put M d id (.cells (hc v r sz) true true))) k23_0 (callFn SP (k + 5)) (s23_b0 n43) n) =
      some (.exit 0, x23_0 (.ptr (some ⟨d, id, 10, 0⟩)) (.str (s.drop (64 * j))), mk [] :: put M d id (.cells (hc (fb K v s j) r sz) true true)) := by
  have hn1 : d ≠ M.length := by omega
  induction j with
  | zero =>
    intro n v s hj hs hn
    obtain ⟨n, rfl⟩ : ∃ m, n = m + 1 := ⟨n - 1, by omega⟩
    have hlt : ¬ (64 : Int) ≤ s.length := by omega
    have hlt2 : ¬ 64 ≤ s.length := by omega
    rw [show fb K v s 0 = v from rfl, Nat.mul_zero, List.drop_zero]
    generalize hc v r sz = HC at *
    rw [rnd0_some]
    conv => lhs; arg 2; arg 1; rw [s23_b0]
    simp (disch := omega) [hlt, hlt2, hn1, put_length]
  | succ j ih0 =>
    intro n v s hj hs hn
    obtain ⟨n, rfl⟩ : ∃ m, n = m + 1 := ⟨n - 1, by omega⟩
    have hge : (64 : Int) ≤ s.length := by omega
    have hge2 : 64 ≤ s.length := by omega
    have ih := ih0 n (blk K v (s.take 64)) (s.drop 64) (by rw [List.length_drop]; omega) (by rw [List.length_drop]; omega) (by omega)
    rw [List.drop_drop, show 64 + 64 * j = 64 * (j + 1) by omega] at ih
    rw [show fb K v s (j + 1) = fb K (blk K v (s.take 64)) (s.drop 64) j from rfl]
    have hGp : ∀ X, Gl K v0 g1 g3 (put M d id X) := fun X => hG.put d id X hd h0
    have ht := take_ev (g1 := g1) h43 h60 h71 h80 h81 h61 h72 k (mk [] :: put M d id (.cells (hc v r sz) true true)) K hK v0 ((hGp _).cons _) d id (by simp [put_length]; omega) v r sz
      (fun o => by rw [get_low (by simp [put_length]; exact hd), get_put hd]; rfl) (by rw [put_low (by simp [put_length]; exact hd), put_put]) (s.take 64) (by rw [List.length_take]; omega)
    rw [put_low (by simp [put_length]; exact hd), put_put] at ht
    generalize hc (blk K v (s.take 64)) r sz = HC2 at *
    generalize fb K (blk K v (s.take 64)) (s.drop 64) j = FV at *
    generalize hc FV r sz = HC3 at *
    generalize hc v r sz = HC at *
    rw [rnd0_some]
    conv => lhs; arg 2; arg 1; rw [s23_b0]
    simp (disch := omega) [hge, hge2, ht, hn1, put_length]
    simpa using ih

theorem hc_len (v : H8) (r : List UInt8) (n : Int) : (hc v r n).length = 10 := rfl
theorem hc_8 (v : H8) (r : List UInt8) (n : Int) : (hc v r n)[8]? = some (.str r) := rfl
theorem hc_9 (v : H8) (r : List UInt8) (n : Int) : (hc v r n)[9]? = some (.int .i64 n) := rfl
theorem hc_g8 (v : H8) (r : List UInt8) (n : Int) (h : 8 < (hc v r n).length) : (hc v r n)[8] = .str r := rfl
theorem hc_g9 (v : H8) (r : List UInt8) (n : Int) (h : 9 < (hc v r n).length) : (hc v r n)[9] = .int .i64 n := rfl
theorem hc_s8 (v : H8) (r x : List UInt8) (n : Int) : (hc v r n).set 8 (.str x) = hc v x n := rfl
theorem hc_s9 (v : H8) (r : List UInt8) (n m : Int) : (hc v r n).set 9 (.int .i64 m) = hc v r m := rfl
theorem hc_u (v : H8) (r : List UInt8) (n : Int) (m : Nat) : AV.unders m (hc v r n) = true := by simp [hc, AV.unders]
theorem hc_tk (v : H8) (r : List UInt8) (n : Int) : (hc v r n).take 10 = hc v r n := rfl

theorem st_app (K : List (BitVec 32)) (v : H8) (a s : List UInt8) :
    st K v (a ++ s) = hc (fb K (hs K v a (a.length / 64)) (a.drop (64 * (a.length / 64)) ++ s) ((a.drop (64 * (a.length / 64)) ++ s).length / 64)) ((a.drop (64 * (a.length / 64)) ++ s).drop (64 * ((a.drop (64 * (a.length / 64)) ++ s).length / 64))) ((a.length : Int) + s.length) := by
  have e0 : a.drop (64 * (a.length / 64)) ++ s = (a ++ s).drop (64 * (a.length / 64)) := by rw [List.drop_append_of_le_length (by omega)]
  have e1 : (a.length / 64 + (a.drop (64 * (a.length / 64)) ++ s).length / 64) = (a ++ s).length / 64 := by
    rw [List.length_append, List.length_drop, List.length_append]; omega
  rw [fb_hs, ← hs_app K v a s (a.length / 64) (by omega), e0, hs_split, ← e0, e1, e0, List.drop_drop, ← Nat.mul_add, ← e0, e1, st]
  rw [List.length_append]
  rfl

/-- More bytes. -/
theorem write_ev (h23 : SP.fn n23 = some (s23 n43)) (h43 : SP.fn n43 = some (s43 g3 n60 n61)) (h60 : SP.fn n60 = some (s60 n61 n71)) (h71 : SP.fn n71 = some (W.s14 n80 n81)) (h80 : SP.fn n80 = some W.s25) (h81 : SP.fn n81 = some W.s27) (h61 : SP.fn n61 = some (W.s19 n72)) (h72 : SP.fn n72 = some W.s17)
    (k : Nat) (M : Mem) (K : List (BitVec 32)) (hK : K.length = 64) (v0 : H8) (hG : Gl K v0 g1 g3 M) (d id : Nat) (hd : d < M.length) (h0 : 0 < d) (a s : List UInt8) (ha : a.length < 2 ^ 46) (hs : s.length < 2 ^ 46)
    (hg : ∀ o, get M ⟨d, id, 10, o⟩ = some (.cells (st K v0 a) true true)) :
    callFn SP (k + 6) n23 [.ptr (some ⟨d, id, 10, 0⟩), .str s] M = some (.undef, [], put M d id (.cells (st K v0 (a ++ s)) true true)) := by
  have hn1 : d ≠ M.length := by omega
  rw [st_app]
  unfold st at hg
  have hrl : (a.drop (64 * (a.length / 64))).length < 64 := by rw [List.length_drop]; omega
  generalize a.drop (64 * (a.length / 64)) = R at *
  have hl := l23 (g1 := g1) h43 h60 h71 h80 h81 h61 h72 k M K hK v0 hG d id hd h0 R ((a.length : Int) + s.length) ((R ++ s).length / 64) ((R ++ s).length / 64 + 1) (Det.S.hs K v0 a (a.length / 64)) (R ++ s) rfl (by rw [List.length_append]; omega) (by omega)
  have hrs : R.length + s.length ≤ 4611686018427387904 := by omega
  have hfu : (R ++ s).length / 64 + 1 < 2 ^ 50 := by rw [List.length_append]; omega
  generalize fb K (Det.S.hs K v0 a (a.length / 64)) (R ++ s) ((R ++ s).length / 64) = V2 at *
  generalize Det.S.hs K v0 a (a.length / 64) = V at *
  generalize (R ++ s).drop (64 * ((R ++ s).length / 64)) = R2 at *
  have w : IntKind.wrap .i64 ((a.length : Int) + s.length) = (a.length : Int) + s.length := IntWalk.i64_in _ (by omega)
  rw [call_fn (h23.trans rfl) (by simp)]
  simp (disch := first | omega | (simp only [put_length]; omega)) [hn1, get_low, put_low, put_length, get_put hd, put_put, hg, hc_len, hc_8, hc_9, hc_g8, hc_g9, hc_s8, hc_s9, w, hrs, if_pos]
  rw [ev_loop ((R ++ s).length / 64 + 1) (by simp [hn1, put_length]) hl hfu]
  simp (disch := first | omega | (simp only [put_length]; omega)) [hn1, get_low, put_low, put_length, get_put hd, put_put, hg, hc_len, hc_8, hc_9, hc_g8, hc_g9, hc_s8, hc_s9, w, hrs, if_pos]

theorem len_ev (h25 : SP.fn n25 = some s25) (k : Nat) (M : Mem) (d id : Nat) (v : H8) (r : List UInt8) (n : Int) (hd : d < M.length) (rw_ fl : Bool) (hg : ∀ o, get M ⟨d, id, 10, o⟩ = some (.cells (hc v r n) rw_ fl)) : callFn SP (k + 1) n25 [.ptr (some ⟨d, id, 10, 0⟩)] M = some (.int .i64 n, [], M) := by
  rw [call_fn (h25.trans rfl) (by simp)]
  simp (disch := omega) [get_low, hd, hg, hc_len, hc_9, hc_g9, if_pos]

theorem len_nil (h25 : SP.fn n25 = some s25) (k : Nat) (M : Mem) : callFn SP (k + 1) n25 [.ptr none] M = some (.int .i64 0, [], M) := by
  rw [call_fn (h25.trans rfl) (by simp)]
  simp (disch := omega) [if_pos]
theorem write_nil (h23 : SP.fn n23 = some (s23 n43)) (k : Nat) (M : Mem) (s : List UInt8) : callFn SP (k + 1) n23 [.ptr none, .str s] M = some (.undef, [], M) := by
  rw [call_fn (h23.trans rfl) (by simp)]
  simp (disch := omega) [if_pos]
theorem sum_nil (h24 : SP.fn n24 = some (s24 n23 n44 n45)) (k : Nat) (M : Mem) : callFn SP (k + 1) n24 [.ptr none] M = some (.str [], [], M) := by
  rw [call_fn (h24.trans rfl) (by simp)]
  simp (disch := omega) [if_pos]

theorem lo64 (n : Nat) : BitVec.setWidth 32 (BitVec.ofNat 64 n * 8#64) = BitVec.ofNat 32 (8 * n) := by
  apply BitVec.eq_of_toNat_eq
  simp only [BitVec.toNat_setWidth, BitVec.toNat_mul, BitVec.toNat_ofNat]
  omega
theorem hi64 (n : Nat) (h : 8 * n < 2 ^ 64) : BitVec.setWidth 32 ((BitVec.ofNat 64 n * 8#64) >>> 32) = BitVec.ofNat 32 (8 * n / 2 ^ 32) := by
  apply BitVec.eq_of_toNat_eq
  simp only [BitVec.toNat_setWidth, BitVec.toNat_ushiftRight, BitVec.toNat_mul, BitVec.toNat_ofNat, Nat.shiftRight_eq_div_pow]
  omega

/-- More bytes, where the digest lies in the uppermost scope. -/
theorem write_top (h23 : SP.fn n23 = some (s23 n43)) (h43 : SP.fn n43 = some (s43 g3 n60 n61)) (h60 : SP.fn n60 = some (s60 n61 n71)) (h71 : SP.fn n71 = some (W.s14 n80 n81)) (h80 : SP.fn n80 = some W.s25) (h81 : SP.fn n81 = some W.s27) (h61 : SP.fn n61 = some (W.s19 n72)) (h72 : SP.fn n72 = some W.s17)
    (k : Nat) (M : Mem) (K : List (BitVec 32)) (hK : K.length = 64) (v0 : H8) (hG : Gl K v0 g1 g3 M) (d id : Nat) (hdm : d = M.length) (a s : List UInt8) (ha : a.length < 2 ^ 46) (hs : s.length < 2 ^ 46) (l : List (Nat × Con)) :
    callFn SP (k + 6) n23 [.ptr (some ⟨d, id, 10, 0⟩), .str s] (mk ((id, .cells (st K v0 a) true true) :: l) :: M) = some (.undef, [], mk ((id, .cells (st K v0 (a ++ s)) true true) :: l) :: M) := by
  subst hdm
  have h := write_ev (g1 := g1) h23 h43 h60 h71 h80 h81 h61 h72 k (mk ((id, .cells (st K v0 a) true true) :: l) :: M) K hK v0 (hG.cons _) M.length id (by simp) hG.1 a s ha hs (fun o => by
    rw [get_top, mk_cons, if_pos rfl]; rfl)
  rw [put_top, setAt_mk] at h
  simpa [ups] using h

theorem sum_ev (h24 : SP.fn n24 = some (s24 n23 n44 n45)) (h44 : SP.fn n44 = none) (ho : SP.ora = repO n44) (h45 : SP.fn n45 = some W.s23)
    (h23 : SP.fn n23 = some (s23 n43)) (h43 : SP.fn n43 = some (s43 g3 n60 n61)) (h60 : SP.fn n60 = some (s60 n61 n71)) (h71 : SP.fn n71 = some (W.s14 n80 n81)) (h80 : SP.fn n80 = some W.s25) (h81 : SP.fn n81 = some W.s27) (h61 : SP.fn n61 = some (W.s19 n72)) (h72 : SP.fn n72 = some W.s17)
    (k : Nat) (M : Mem) (K : List (BitVec 32)) (hK : K.length = 64) (v0 : H8) (hG : Gl K v0 g1 g3 M) (d id : Nat) (hd : d < M.length) (a : List UInt8) (ha : a.length < 2 ^ 45) (rw_ fl : Bool)
    (hg : ∀ o, get M ⟨d, id, 10, o⟩ = some (.cells (st K v0 a) rw_ fl)) : callFn SP (k + 7) n24 [.ptr (some ⟨d, id, 10, 0⟩)] M = some (.str (dg K v0 a), [], M) := by
  have hn1 : d ≠ M.length := by omega
  have hr := fun k M => rep_ev h44 ho k M 0 (zn a.length : Int) (by omega) (by unfold zn; omega)
  have hw := fun k M hG d hdm l => write_top (g1 := g1) h23 h43 h60 h71 h80 h81 h61 h72 k M K hK v0 hG d 12012 hdm a (tl a.length) (by omega) (by rw [tl_len]; unfold zn; omega) l
  have hGc := fun s => hG.cons s
  have htl : tl a.length = 128 :: (List.replicate (zn a.length) 0 ++ bits a.length) := rfl
  have lo := lo64 a.length
  have hi := hi64 a.length (by omega)
  have hz : 119 - ((a.length % 64 : Nat) : Int) ≥ 0 := by omega
  have ez : (119 - ((a.length % 64 : Nat) : Int)).tmod 64 = (zn a.length : Int) := by
    rw [Int.tmod_eq_emod_of_nonneg hz]; unfold zn; omega
  have hbl := bits_len a.length
  have hpd : dg K v0 a = W.tx true (hs K v0 (a ++ tl a.length) ((a ++ tl a.length).length / 64)).l := rfl
  have hb : bits a.length = W.tx true [BitVec.ofNat 32 (8 * a.length / 2 ^ 32), BitVec.ofNat 32 (8 * a.length)] := rfl
  rw [hpd]
  have hW : ∀ (M' : Mem) (l : List (Nat × Con)) (d : Nat) (rw_ fl2 : Bool), d = M'.length → WS (mk ((12012, .cells (st K v0 (a ++ tl a.length)) rw_ fl2) :: l) :: M') u32 (.slice (some ⟨d, 12012, 10, 0⟩) 8 1) (hs K v0 (a ++ tl a.length) ((a ++ tl a.length).length / 64)).l := by
    intro M' l d rw_ fl2 hdm
    subst hdm
    refine .inr (.inr ⟨M'.length, 12012, 10, rw_, fl2, [.str ((a ++ tl a.length).drop (64 * ((a ++ tl a.length).length / 64))), .int .i64 ((a ++ tl a.length).length : Nat)], rfl, by simp, fun o => ?_⟩)
    rw [get_top, mk_cons, if_pos rfl]
    rfl
  have hrl : (a.drop (64 * (a.length / 64))).length = a.length % 64 := by rw [List.length_drop]; omega
  have h8 : (hs K v0 (a ++ tl a.length) ((a ++ tl a.length).length / 64)).l.length = 8 := rfl
  have hst : st K v0 a = hc (hs K v0 a (a.length / 64)) (a.drop (64 * (a.length / 64))) a.length := rfl
  have q8 : (st K v0 a)[8]? = some (.str (a.drop (64 * (a.length / 64)))) := rfl
  have q9 : (st K v0 a)[9]? = some (.int .i64 (a.length : Int)) := rfl
  have ql : (st K v0 a).length = 10 := rfl
  have qt : (st K v0 a).take 10 = st K v0 a := rfl
  have qu : AV.unders 0 (st K v0 a) = true := by rw [hst]; exact hc_u _ _ _ _
  clear hst hpd
  generalize a.drop (64 * (a.length / 64)) = R at *
  generalize (hs K v0 (a ++ tl a.length) ((a ++ tl a.length).length / 64)).l = HL at *
  generalize st K v0 (a ++ tl a.length) = S2 at *
  generalize st K v0 a = S1 at *
  generalize tl a.length = T at *
  generalize bits a.length = B at *
  obtain ⟨p, hp⟩ : ∃ p, zn a.length = p := ⟨_, rfl⟩
  have hpp : p < 64 := by rw [← hp]; unfold zn; omega
  rw [hp] at hr ez htl
  simp only [Int.toNat_natCast] at hr
  obtain ⟨m, hm⟩ : ∃ m, a.length % 64 = m := ⟨_, rfl⟩
  have hmm : m < 64 := by omega
  rw [hm] at hrl ez
  obtain ⟨u, hu⟩ : ∃ u, 119 - m = u := ⟨_, rfl⟩
  have w1 : IntKind.wrap .i64 (119 - (m : Int)) = (u : Int) := by rw [IntWalk.i64_in _ (by omega)]; omega
  have ez2 : (u : Int).tmod 64 = (p : Int) := by rw [← ez]; congr 1; omega
  have ez3 : (u : Int) % 64 = (p : Int) := by rw [← ez2, Int.tmod_eq_emod_of_nonneg (by omega)]
  have q8' := cell_at q8
  have q9' := cell_at q9
  rw [call_fn (h24.trans rfl) (by simp)]
  simp (disch := first | omega | (simp; done) | (simp; omega)) [hn1, get_low, hd, hg, q8, q9, q8', q9', ql, qt, qu, hrl, w1, ez2, ez3, hr, lo, hi, if_pos]
  rw [W.frombig_ev (SP := SP) (n23 := n45) h45]
  case hv => exact WS.top' (l := [BitVec.ofNat 32 (8 * a.length / 4294967296), BitVec.ofNat 32 (8 * a.length)]) rfl (by simp) rfl rfl
  case hN => simp
  simp only [Nat.reducePow] at hb
  rw [← hb]
  have hw2 := fun k l => hw k M hG M.length rfl l
  rw [htl] at hw2
  simp (disch := first | omega | (simp; done) | (simp; omega)) [hw2, hbl, if_pos]
  rw [W.frombig_ev (SP := SP) (n23 := n45) h45]
  case hv => exact hW _ _ _ _ _ (by simp)
  case hN => omega
  simp (disch := first | omega | (simp; done) | (simp; omega)) []
end
end Go.Det.S
