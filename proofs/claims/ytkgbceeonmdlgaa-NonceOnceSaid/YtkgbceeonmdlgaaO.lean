/-
  NONCE: no two numbers that are told are the same, and each is read back.
-/
import Derived.Test.YtkgbceeonmdlgaaU
import Derived.Test.YtkgbceeonmdlgaaDetV
set_option maxRecDepth 100000
set_option maxHeartbeats 4000000
set_option linter.unusedSimpArgs false
set_option linter.unusedVariables false
namespace Go.Proofs.Ytkgbceeonmdlgaa
open Go.Det Go.Det.K

theorem one_len (e n : BitVec 64) : (one e n).length = 12 := by rw [one, List.length_append, be8_len, W.tx_len]; rfl

theorem nat_le32 {n : BitVec 64} (h : n.toNat ≤ 4294967295) : n ≤ 4294967295#64 := by rw [BitVec.le_def]; exact h

theorem rread_one (e n : BitVec 64) (he : mayE e) (hn : n.toNat ≤ 4294967295) : rread (one e n) = (e, n, 0) := by
  have h1 : hor8 (one e n) 0 8 = e := by
    rw [← two_hor, List.drop_zero]
    have : (one e n).take 8 = be8 e := by rw [one, List.take_left' (be8_len e)]
    rw [this, two_be8]
  have h2 : hor8 (one e n) 8 4 = n := by
    rw [← hor4_eq]
    have : (one e n).drop 8 = W.tx true [n.setWidth 32] := by rw [one, List.drop_left' (be8_len e)]
    rw [this, W.wat_tx true _ 0 (by simp)]
    apply BitVec.eq_of_toNat_eq
    simp only [nth, List.getD, List.getElem?_cons_zero, Option.getD_some, BitVec.toNat_setWidth]
    omega
  unfold rread
  rw [h1, h2, if_pos (one_len e n), if_pos he]

theorem low32_inj {a b : BitVec 64} (ha : a.toNat ≤ 4294967295) (hb : b.toNat ≤ 4294967295) (h : a.setWidth 32 = b.setWidth 32) : a = b := by
  apply BitVec.eq_of_toNat_eq
  have := congrArg BitVec.toNat h
  simp only [BitVec.toNat_setWidth] at this
  omega

theorem wide_inj {a b : BitVec 32} (h : a.setWidth 64 = b.setWidth 64) : a = b := by
  apply BitVec.eq_of_toNat_eq
  have := congrArg BitVec.toNat h
  simp only [BitVec.toNat_setWidth] at this
  have := a.isLt
  have := b.isLt
  omega

/-- Of each number told so far: its epoch is among those used; if that is the present one, its number lies below y. -/
def Told (U : List (BitVec 32)) (x : BitVec 32) (y : Nat) (L : List (List UInt8)) : Prop :=
  ∀ m ∈ L, ∃ x' n', m = one (BitVec.setWidth 64 x') n' ∧ x' ∈ U ∧ n'.toNat ≤ 4294967295 ∧ (x' = x → n'.toNat < y)

theorem Told.not {U : List (BitVec 32)} {x : BitVec 32} {y : BitVec 64} {L : List (List UInt8)} (h : Told U x y.toNat L) (hy : y.toNat ≤ 4294967295) : one (BitVec.setWidth 64 x) y ∉ L := by
  intro hm
  obtain ⟨x', n', h1, h2, h3, h4⟩ := h _ hm
  obtain ⟨e1, e2⟩ := one_inj _ _ _ _ h1
  have e3 := low32_inj hy h3 e2
  have := h4 (wide_inj e1).symm
  rw [e3] at this
  omega
theorem Told.add {U : List (BitVec 32)} {x : BitVec 32} {y : BitVec 64} {L : List (List UInt8)} (h : Told U x y.toNat L) (hy : y.toNat ≤ 4294967295) (hx : x ∈ U) : Told U x (y.toNat + 1) (L ++ [one (BitVec.setWidth 64 x) y]) := by
  intro m hm
  rcases List.mem_append.1 hm with hm | hm
  · obtain ⟨x', n', h1, h2, h3, h4⟩ := h _ hm
    exact ⟨x', n', h1, h2, h3, fun h => by have := h4 h; omega⟩
  · simp only [List.mem_singleton] at hm
    exact ⟨x, y, hm, hx, hy, fun _ => by omega⟩

@[simp] theorem key_str (s : List UInt8) : keyOk true (.str s) = true := nodef rfl
@[simp] theorem key_u32 (x : BitVec 32) : keyOk false (u32 x) = true := nodef rfl

theorem left_trd' (k : Nat) (M : Mem) (d i0 i1 id : Nat) (c0 c1 : Con) (e n : BitVec 64) (rw_ fl : Bool) (l : List (Nat × Con)) (hdm : d = M.length) (h0 : id ≠ i0) (h1 : id ≠ i1) :
    callFn SP (k + 1) 17 [.ptr (some ⟨d, id, 2, 0⟩)] (mk ((i0, c0) :: (i1, c1) :: (id, .cells [u64 e, u64 n] rw_ fl) :: l) :: M) = some (u64 (4294967296#64 - n), [], mk ((i0, c0) :: (i1, c1) :: (id, .cells [u64 e, u64 n] rw_ fl) :: l) :: M) := by
  subst hdm
  have hg := trd_get M i0 i1 id 2 c0 c1 (.cells [u64 e, u64 n] rw_ fl) l h0 h1 rfl
  have hd : M.length < (mk ((i0, c0) :: (i1, c1) :: (id, .cells [u64 e, u64 n] rw_ fl) :: l) :: M).length := by simp
  generalize mk ((i0, c0) :: (i1, c1) :: (id, .cells [u64 e, u64 n] rw_ fl) :: l) :: M = M1 at *
  rw [call_fn (by rfl) (by simp)]
  simp (disch := omega) [if_pos, get_low, hg, hd]

theorem l12_1 (k : Nat) (M : Mem) (next x : BitVec 32) (n0 v25 v26 v27 : AV) (U : List (BitVec 32)) (N : Nat) (hN : N < 30) (fl : Bool) (hx0 : x ≠ 0#32) (hxU : x ∈ U)
    (h25 : AV.ids M.length v25 = []) (h26 : AV.ids M.length v26 = []) (h27 : AV.ids M.length v27 = []) (h0 : AV.ids M.length n0 = []) (j : Nat) : ∀ (i n : Nat) (y : BitVec 64) (L : List (List UInt8)), i + j = N → j < n → y.toNat = next.toNat + i → y.toNat ≤ 4294967296 → Told U x y.toNat L →
    ∃ L' y', Told U x y' L' ∧ fgt a12_1 (rnd0 (some (e12_1 (u32 next) n0 (.map (some ⟨M.length, 4000, 0, 0⟩)) (.map (some ⟨M.length, 4004, 0, 0⟩)) (u32 x) (.ptr (some ⟨M.length, 28016, 2, 0⟩)) v25 v26 v27 (.int .i64 N) (.int .i64 i),
        mk [(4000, .map (ks AV.str L) true), (4004, .map (ks u32 U) true), (28016, .cells [u64 (BitVec.setWidth 64 x), u64 y] true fl)] :: M)) k12_1 (callFn SP (k + 6)) s12_b1 n) =
      some (.exit 2, x12_1 (u32 next) n0 .dead (.map (some ⟨M.length, 4000, 0, 0⟩)) (.map (some ⟨M.length, 4004, 0, 0⟩)) v25 v26 v27, mk [(4000, .map (ks AV.str L') true), (4004, .map (ks u32 U) true)] :: M) := by
  have hme : mayE (BitVec.setWidth 64 x) := by
    have h1 : x.toNat ≠ 0 := fun h => hx0 (BitVec.eq_of_toNat_eq h)
    have he := x.isLt
    unfold mayE
    rw [BitVec.le_def, BitVec.le_def, BitVec.toNat_setWidth]
    refine ⟨?_, ?_⟩
    · show 1 ≤ _; omega
    · show _ ≤ 4294967295; omega
  induction j with
  | zero =>
    intro i n y L h hn hy hle hT
    obtain rfl : i = N := by omega
    refine ⟨L, y.toNat, hT, ?_⟩
    rw [rnd0_some]
    conv => lhs; arg 2; arg 1; rw [s12_b1]
    simp [h25, h26, h27, h0]
  | succ j ih0 =>
    intro i n y L h hn hy hle hT
    obtain ⟨n, rfl⟩ : ∃ m, n = m + 1 := ⟨n - 1, by omega⟩
    have hi : i < N := by omega
    by_cases hy2 : y.toNat ≤ 4294967295
    · have hy3 := nat_le32 hy2
      have hnot := hT.not hy2
      have hx1 : (y + 1#64).toNat = y.toNat + 1 := by
        rw [BitVec.toNat_add]
        show (y.toNat + 1) % 2 ^ 64 = _
        exact Nat.mod_eq_of_lt (by omega)
      have hrd := rread_one (BitVec.setWidth 64 x) y hme hy2
      have hln := one_len (BitVec.setWidth 64 x) y
      obtain ⟨L', y', hT', ih⟩ := ih0 (i + 1) n (y + 1#64) (L ++ [one (BitVec.setWidth 64 x) y]) (by omega) (by omega) (by rw [hx1]; omega) (by omega) (by rw [hx1]; exact hT.add hy2 hxU)
      refine ⟨L', y', hT', ?_⟩
      have hyy : BitVec.setWidth 64 next + BitVec.ofNat 64 i = y := by
        apply BitVec.eq_of_toNat_eq
        rw [BitVec.toNat_add, BitVec.toNat_setWidth, BitVec.toNat_ofNat, hy]
        have := next.isLt
        omega
      have hst := set_str (one (BitVec.setWidth 64 x) y) L hnot
      have hfd := find_str (one (BitVec.setWidth 64 x) y) L
      rw [if_neg hnot] at hfd
      have hnx := fun k l => next_trd_ok k M 4000 4004 28016 (.map (ks AV.str L) true) (.map (ks u32 U) true) (BitVec.setWidth 64 x) y fl l (by decide) (by decide) hy3
      have hrd2 := fun k M => read_ev k M (one (BitVec.setWidth 64 x) y) (by omega)
      simp only [hrd] at hrd2
      generalize one (BitVec.setWidth 64 x) y = S at *
      rw [rnd0_some]
      conv => lhs; arg 2; arg 1; rw [s12_b1]
      simpa (disch := first | omega | (simp; done) | (simp; omega)) [hi, h25, h26, h27, h0, hnx, hrd2, hfd, hst, hyy, IntWalk.i64_in] using ih
    · have hy3 : ¬ y ≤ 4294967295#64 := fun h => hy2 h
      have hy4 : y = 4294967296#64 := BitVec.eq_of_toNat_eq (by show _ = 4294967296; omega)
      subst hy4
      refine ⟨L, _, hT, ?_⟩
      have hnx := fun k l => next_trd_no k M 4000 4004 28016 (.map (ks AV.str L) true) (.map (ks u32 U) true) (BitVec.setWidth 64 x) 4294967296#64 fl l (by decide) (by decide) hy3
      rw [rnd0_some]
      conv => lhs; arg 2; arg 1; rw [s12_b1]
      simp (disch := first | omega | (simp; done) | (simp; omega)) [hi, h25, h26, h27, h0, hnx, left_trd', IntWalk.i64_in]

def ToldA (U : List (BitVec 32)) (L : List (List UInt8)) : Prop := ∀ m ∈ L, ∃ x' n', m = one (BitVec.setWidth 64 x') n' ∧ x' ∈ U ∧ n'.toNat ≤ 4294967295

theorem l12_0 (k : Nat) (M : Mem) (next : BitVec 32) (n0 : Int) (v : AV) (l : List (BitVec 32)) (hv : WS M u32 v l) (hl : l.length ≤ 10) (j : Nat) : ∀ (i n : Nat) (L : List (List UInt8)) (U : List (BitVec 32)), i + j = l.length → j < n → ToldA U L →
    fgt a12_0 (rnd0 (some (e12_0 (u32 next) (.int .i64 n0) (.map (some ⟨M.length, 4000, 0, 0⟩)) (.map (some ⟨M.length, 4004, 0, 0⟩)) v (.int .i64 l.length) (.int .i64 i),
        mk [(4000, .map (ks AV.str L) true), (4004, .map (ks u32 U) true)] :: M)) k12_0 (callFn SP (k + 6)) s12_b0 n) =
      some (.exit 0, x12_0 .dead, mk [] :: M) := by
  induction j with
  | zero =>
    intro i n L U h hn hT
    obtain rfl : i = l.length := by omega
    rw [rnd0_some]
    conv => lhs; arg 2; arg 1; rw [s12_b0]
    simp
  | succ j ih0 =>
    intro i n L U h hn hT
    obtain ⟨n, rfl⟩ : ∃ m, n = m + 1 := ⟨n - 1, by omega⟩
    have hi : i < l.length := by omega
    rcases hv with ⟨w, rfl, rfl⟩ | ⟨w, rfl, rfl⟩ | ⟨d, id, z, rw_, fl, r, rfl, hd, hg⟩
    · simp at hi
    · simp at hi
    have ga := map_app_get u32 l r i hi
    have hn1 : d ≠ M.length := by omega
    obtain ⟨x, hx⟩ : ∃ x, nth l i = x := ⟨_, rfl⟩
    rw [hx] at ga
    have hfd := find_u32 x U
    by_cases h0 : x = 0#32
    · have ih := ih0 (i + 1) n L U (by omega) (by omega) hT
      rw [rnd0_some]
      conv => lhs; arg 2; arg 1; rw [s12_b0]
      simpa (disch := first | omega | (simp; done) | (simp; omega)) [hi, get_low, hd, hg, ga, if_pos, hn1, IntWalk.i64_in, getElem_nth l, hx, h0] using ih
    by_cases hxU : x ∈ U
    · have ih := ih0 (i + 1) n L U (by omega) (by omega) hT
      rw [if_pos hxU] at hfd
      rw [rnd0_some]
      conv => lhs; arg 2; arg 1; rw [s12_b0]
      simpa (disch := first | omega | (simp; done) | (simp; omega)) [hi, get_low, hd, hg, ga, if_pos, hn1, IntWalk.i64_in, getElem_nth l, hx, h0, hfd] using ih
    · rw [if_neg hxU] at hfd
      have hst := set_u32 x U hxU
      have hme : mayE (BitVec.setWidth 64 x) := by
        have h1 : x.toNat ≠ 0 := fun h => h0 (BitVec.eq_of_toNat_eq h)
        have he := x.isLt
        unfold mayE
        rw [BitVec.le_def, BitVec.le_def, BitVec.toNat_setWidth]
        refine ⟨?_, ?_⟩
        · show 1 ≤ _; omega
        · show _ ≤ 4294967295; omega
      have hny : (BitVec.setWidth 64 next).toNat = next.toNat := by
        rw [BitVec.toNat_setWidth]; have := next.isLt; omega
      have hnw := fun k M => new_ok k M (BitVec.setWidth 64 x) (BitVec.setWidth 64 next) ⟨hme, nat_le32 (by have := next.isLt; omega)⟩
      simp only [sc] at hnw
      obtain ⟨N, hN1, hN2⟩ : ∃ N : Nat, (max 0 n0).tmod 30 = N ∧ N < 30 := by
        refine ⟨(max 0 n0).toNat % 30, ?_, Nat.mod_lt _ (by omega)⟩
        have h0 : max 0 n0 = ((max 0 n0).toNat : Int) := by omega
        rw [Int.tmod_eq_emod_of_nonneg (by omega)]
        omega
      have hT2 : Told (U ++ [x]) x (BitVec.setWidth 64 next).toNat L := by
        intro m hm
        obtain ⟨x', n', h1, h2, h3⟩ := hT m hm
        exact ⟨x', n', h1, by simp [h2], h3, fun hh => absurd (hh ▸ h2) hxU⟩
      obtain ⟨L', y', hT', hlp⟩ := l12_1 k M next x (.int .i64 n0) (.slice (some ⟨d, id, z, 0⟩) l.length 1) (.int .i64 l.length) (.int .i64 i) (U ++ [x]) N hN2 true h0 (by simp) (by simp [hn1]) (by simp) (by simp) (by simp) N 0 31 (BitVec.setWidth 64 next) L (by omega) (by omega) (by omega)
        (by rw [hny]; have := next.isLt; omega) hT2
      have ih := ih0 (i + 1) n L' (U ++ [x]) (by omega) (by omega) (fun m hm => by
        obtain ⟨x', n', h1, h2, h3, _⟩ := hT' m hm
        exact ⟨x', n', h1, h2, h3⟩)
      rw [rnd0_some]
      conv => lhs; arg 2; arg 1; rw [s12_b0]
      simp (disch := first | omega | (simp; done) | (simp; omega)) [hi, get_low, hd, hg, ga, if_pos, hn1, IntWalk.i64_in, getElem_nth l, hx, h0, hfd, hst, hnw, hN1]
      rw [ev_loop 31 (by simp [hn1]) hlp (by omega)]
      simpa (disch := first | omega | (simp; done) | (simp; omega)) [hi, get_low, hd, hg, ga, if_pos, hn1, IntWalk.i64_in, getElem_nth l, hx, h0, hfd, hst, hnw, hN1] using ih

theorem law12 (k : Nat) (M : Mem) (next : BitVec 32) (n : Int) (v : AV) (l : List (BitVec 32)) (hv : WS M u32 v l) (hl : l.length < 2 ^ 48) : callFn SP (k + 7) 12 [v, u32 next, .int .i64 n] M = some (.bool true, [], M) := by
  rw [call_fn (by rfl) (by simp)]
  have hT : ToldA [] [] := fun m hm => absurd hm (by simp)
  rcases hv with ⟨w, rfl, rfl⟩ | ⟨w, rfl, rfl⟩ | ⟨d, id, z, rw_, fl, r, rfl, hd, hg⟩
  · have hlp := l12_0 k M next n (.slice none 0 1) [] (.inl ⟨1, rfl, rfl⟩) (by simp) 0 0 1 [] [] rfl (by omega) hT
    simp only [ks, List.map_nil] at hlp
    simp (disch := omega) [if_pos, show min (0 : Int) 10 = 0 from rfl]
    rw [ev_loop 1 (by simp) hlp (by omega)]
    simp (disch := omega) [wakes16]
  · have hlp := l12_0 k M next n (.slice0 1) [] (.inr (.inl ⟨1, rfl, rfl⟩)) (by simp) 0 0 1 [] [] rfl (by omega) hT
    simp only [ks, List.map_nil] at hlp
    simp (disch := omega) [if_pos, show min (0 : Int) 10 = 0 from rfl]
    rw [ev_loop 1 (by simp) hlp (by omega)]
    simp (disch := omega) [wakes16]
  · have hv := WS.take (l := l) (M := M) (f := u32) (d := d) (id := id) (z := z) 10 hd hg rfl
    have hlp := l12_0 k M next n _ (l.take 10) hv (by rw [List.length_take]; omega) (l.take 10).length 0 11 [] [] (by omega) (by rw [List.length_take]; omega) hT
    simp only [ks, List.map_nil] at hlp
    rw [show min 10 l.length = (l.take 10).length from (List.length_take).symm] at hlp
    by_cases h : l.length < 10
    · simp (disch := omega) [if_pos, h, hd, hg, get_low]
      rw [List.take_of_length_le (by omega)] at hlp
      rw [ev_loop 11 (by simp [show d ≠ M.length by omega]) hlp (by omega)]
      simp (disch := omega) [wakes16]
    · simp (disch := omega) [if_pos, h, hd, hg, get_low]
      rw [show (l.take 10).length = 10 by rw [List.length_take]; omega] at hlp
      rw [ev_loop 11 (by simp [show d ≠ M.length by omega]) hlp (by omega)]
      simp (disch := omega) [wakes16]

theorem ev_NonceOnce (s : Scope) (args : List AV) (h : ArgsShp s [.sl (.int .u32), .int .u32, .int .i64] args) : ∃ k M', callFn SP k 12 args [s, mk []] = some (.bool true, [], M') := by
  obtain ⟨_, _, rfl, h1, _, _, rfl, h2, _, _, rfl, h3, rfl⟩ := h
  obtain ⟨l, hv, hl⟩ := ArgShp_slu32 (mk []) h1
  obtain ⟨x, rfl⟩ := ArgShp_u32 h2
  obtain ⟨n, rfl, _⟩ := ArgShp_i64 h3
  unfold reachBytes at hl
  exact ⟨7, _, law12 0 [s, mk []] x n _ l hv (by omega)⟩
end Go.Proofs.Ytkgbceeonmdlgaa
