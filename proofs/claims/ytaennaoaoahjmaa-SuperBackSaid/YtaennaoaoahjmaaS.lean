/-
  The record's law: a record is read: the call.
-/
import Derived.Test.YtaennaoaoahjmaaR
import Derived.Test.YtaennaoaoahjmaaB6
import Derived.Test.YtaennaoaoahjmaaK
set_option maxRecDepth 100000
set_option linter.unusedSimpArgs false
set_option linter.unusedVariables false
namespace Go.Proofs.Ytaennaoaoahjmaa
open Go.Det

theorem ofInt64_nat (b : Int) (h1 : 0 ≤ b) (h2 : b < 2 ^ 60) : (BitVec.ofInt 64 b).toNat = b.toNat := by
  rw [BitVec.toNat_ofInt]
  omega

theorem rbelow_lt (b : Int) (r : K.Rd) (h1 : 0 < b) (h2 : b < 2 ^ 60) : 0 ≤ (K.rbelow b r).1 ∧ (K.rbelow b r).1 < b := by
  unfold K.rbelow
  split
  · split
    · exact ⟨Int.le_refl _, h1⟩
    · rename_i h
      rw [not_or] at h
      have h3 := h.2
      rw [BitVec.le_def, ofInt64_nat b (by omega) h2] at h3
      rw [IntWalk.i64_in _ (by omega)]
      simp only
      omega
  · exact ⟨Int.le_refl _, h1⟩

theorem done_at (k : Nat) (M : Mem) (r : K.Rd) (rw_ fl : Bool) : ∀ l, mk l 4004 = some (.cells [.str r.1, .int .i64 r.2] rw_ fl) →
    callFn SP (k + 1) 31 [.ptr (some ⟨M.length, 4004, 2, 0⟩)] (mk l :: M) = some (.int .i64 (K.rdone r), [], mk l :: M) := by
  intro l h
  obtain ⟨t, b⟩ := r
  have hg : ∀ o, Det.get (mk l :: M) ⟨M.length, 4004, 2, o⟩ = some (.cells [.str t, .int .i64 b] rw_ fl) := fun o => by rw [get_top, h]; rfl
  have hd : M.length < (mk l :: M).length := by simp
  generalize mk l :: M = M1 at *
  rw [call_fn (f := 31) (by rfl) (by simp)]
  unfold K.rdone
  by_cases h1 : b = 0
  · by_cases h2 : t = []
    · simp (disch := omega) [h1, h2, get_low, hg, hd]
    · simp (disch := omega) [h1, h2, get_low, hg, hd]
  · simp (disch := omega) [h1, get_low, hg, hd]

theorem rec_read (M : Mem) (R : Rec) (h1 : R.seats.length ≤ 30) (h2 : R.mems.length ≤ 20) (rw_ : Bool) (l : List (Nat × Con)) (hs : R.seats ≠ [] → mk l 52020 = some (.cells (R.seats.map (AV.int .i64)) rw_ true))
    (hm : R.mems ≠ [] → mk l 68020 = some (.cells (R.mems.flatMap mc) rw_ true)) : IsRec (mk l :: M) R (sW M.length R.seats) (mV M.length 68020 R.mems) := by
  unfold sW mV
  by_cases hS : R.seats = [] <;> by_cases hM : R.mems = []
  · rw [if_pos hS, if_pos hM]
    exact rec_topN hS hM
  · rw [if_pos hS, if_neg hM]
    exact rec_topM hS (hm hM) h2 rfl rfl rfl
  · rw [if_neg hS, if_pos hM]
    exact rec_topS hM (hs hS) h1 rfl rfl rfl
  · rw [if_neg hS, if_neg hM]
    exact rec_top (hs hS) (hm hM) h1 h2 rfl rfl rfl rfl rfl rfl

/-- The record that bytes are, and the reader behind it. -/
def getR (t : List UInt8) : Rec × K.Rd :=
  let a1 := K.rnum (t, 0)
  let a2 := K.rnum a1.2
  let b1 := K.rbelow 17 a2.2
  let b2 := K.rbelow 17 b1.2
  let b3 := K.rbelow 17 b2.2
  let b4 := K.rbelow 17 b3.2
  let g := K.rbelow 2 b4.2
  let n := K.rbelow 13 g.2
  let s := rseats n.1.toNat n.2
  let m := K.rbelow 13 s.2
  let ms := rmems m.1.toNat m.2
  (⟨a1.1, a2.1, b1.1, b2.1, b3.1, b4.1, decide (g.1 = 1), s.1, ms.1⟩, ms.2)

def zeroR : Rec := ⟨0#64, 0#64, 0, 0, 0, 0, false, [], []⟩

/-- What Get returns. -/
def getOut (D : Nat) (t : List UInt8) : AV × List Con :=
  if K.rdone (getR t).2 = 0 ∧ goodP (getR t).1 = true then
    (.tuple [recV (getR t).1 (.slice (some ⟨D, 0, (getR t).1.seats.length, 0⟩) (getR t).1.seats.length 1) (.slice (some ⟨D, 1, 3 * (getR t).1.mems.length, 0⟩) (getR t).1.mems.length 3), .int .i64 0],
      [.cells ((getR t).1.seats.map (AV.int .i64)) true true, .cells ((getR t).1.mems.flatMap mc) true true])
  else (.tuple [recV zeroR (.slice none 0 0) (.slice none 0 0), .int .i64 4], [])

theorem good_ne' {r : Rec} (h : goodP r = true) : r.seats ≠ [] ∧ r.mems ≠ [] := by
  simp only [goodP, Bool.and_eq_true] at h
  obtain ⟨h1, _, h3⟩ := h
  unfold sizesP at h1
  unfold seatsP at h3
  split at h1
  · cases h1
  rename_i hd
  split at h1
  · cases h1
  split at h1
  · cases h1
  have hl := of_decide_eq_true h1
  refine ⟨?_, fun hn => by rw [hn] at hl; simp at hl⟩
  intro hn
  have w1 : IntKind.wrap .i64 (r.data + 2) = r.data + 2 := IntWalk.i64_in _ (by omega)
  have w2 : IntKind.wrap .i64 (r.data + 2 + 1) = r.data + 2 + 1 := IntWalk.i64_in _ (by omega)
  rw [ite_not] at h3
  by_cases hA : (r.seats.length : Int) = (if r.growing then IntKind.wrap .i64 (IntKind.wrap .i64 (r.data + 2) + 1) else IntKind.wrap .i64 (r.data + 2))
  · rw [w1, w2, hn] at hA
    cases hg : r.growing <;> simp [hg] at hA <;> omega
  · rw [if_neg hA] at h3; cases h3

set_option maxHeartbeats 16000000 in
theorem get_ev (k : Nat) (M : Mem) (t : List UInt8) (ht : t.length < 2 ^ 48) :
    callFn SP (k + 7) 13 [.str t] M = some ((getOut M.length t).1, (getOut M.length t).2, M) := by
  unfold getOut getR
  simp only
  have hnew := fun s => K.new_ev (SP := SP) (n24 := 27) rfl (k + 5) (s :: ro M) t
  obtain ⟨c, r1, e1⟩ : ∃ c r, K.rnum (t, 0) = (c, r) := ⟨_, _, rfl⟩
  have g1 : r1.1.length < 2 ^ 48 := by have := K.rnum_len (t, 0); rw [e1] at this; exact Nat.lt_of_le_of_lt this ht
  have h1 := num_at (k + 2) M (t, 0) ht
  rw [e1] at h1 ⊢
  simp only at h1 ⊢
  obtain ⟨e, r2, e2⟩ : ∃ c r, K.rnum r1 = (c, r) := ⟨_, _, rfl⟩
  have g2 : r2.1.length < 2 ^ 48 := by have := K.rnum_len r1; rw [e2] at this; exact Nat.lt_of_le_of_lt this g1
  have h2 := num_at (k + 2) M r1 g1
  rw [e2] at h2 ⊢
  simp only at h2 ⊢
  obtain ⟨d, r3, e3⟩ : ∃ c r, K.rbelow 17 r2 = (c, r) := ⟨_, _, rfl⟩
  have g3 : r3.1.length < 2 ^ 48 := by have := rbelow_len 17 r2; rw [e3] at this; exact Nat.lt_of_le_of_lt this g2
  have h3 := below_at (k + 1) M 17 r2 g2
  rw [e3] at h3 ⊢
  simp only at h3 ⊢
  obtain ⟨sl, r4, e4⟩ : ∃ c r, K.rbelow 17 r3 = (c, r) := ⟨_, _, rfl⟩
  have g4 : r4.1.length < 2 ^ 48 := by have := rbelow_len 17 r3; rw [e4] at this; exact Nat.lt_of_le_of_lt this g3
  have h4 := below_at (k + 1) M 17 r3 g3
  rw [e4] at h4 ⊢
  simp only at h4 ⊢
  obtain ⟨mk_, r5, e5⟩ : ∃ c r, K.rbelow 17 r4 = (c, r) := ⟨_, _, rfl⟩
  have g5 : r5.1.length < 2 ^ 48 := by have := rbelow_len 17 r4; rw [e5] at this; exact Nat.lt_of_le_of_lt this g4
  have h5 := below_at (k + 1) M 17 r4 g4
  rw [e5] at h5 ⊢
  simp only at h5 ⊢
  obtain ⟨bu, r6, e6⟩ : ∃ c r, K.rbelow 17 r5 = (c, r) := ⟨_, _, rfl⟩
  have g6 : r6.1.length < 2 ^ 48 := by have := rbelow_len 17 r5; rw [e6] at this; exact Nat.lt_of_le_of_lt this g5
  have h6 := below_at (k + 1) M 17 r5 g5
  rw [e6] at h6 ⊢
  simp only at h6 ⊢
  obtain ⟨gr, r7, e7⟩ : ∃ c r, K.rbelow 2 r6 = (c, r) := ⟨_, _, rfl⟩
  have g7 : r7.1.length < 2 ^ 48 := by have := rbelow_len 2 r6; rw [e7] at this; exact Nat.lt_of_le_of_lt this g6
  have h7 := below_at (k + 1) M 2 r6 g6
  rw [e7] at h7 ⊢
  simp only at h7 ⊢
  obtain ⟨n, r8, e8⟩ : ∃ c r, K.rbelow 13 r7 = (c, r) := ⟨_, _, rfl⟩
  have g8 : r8.1.length < 2 ^ 48 := by have := rbelow_len 13 r7; rw [e8] at this; exact Nat.lt_of_le_of_lt this g7
  have h8 := below_at (k + 1) M 13 r7 g7
  have b8 := rbelow_lt 13 r7 (by omega) (by omega)
  rw [e8] at h8 b8 ⊢
  simp only at h8 b8 ⊢
  obtain ⟨N, rfl⟩ : ∃ N : Nat, n = N := ⟨n.toNat, by omega⟩
  rw [Int.toNat_natCast]
  have sn := rseats_n N r8
  have la := fun r => l13a (k + 1) M r N (by omega) N 0 (N + 1) [] r8 rfl g8 (by omega) (by omega)
  have g9 := Nat.lt_of_le_of_lt (rseats_len N r8) g8
  obtain ⟨S, r9, e9⟩ : ∃ c r, rseats N r8 = (c, r) := ⟨_, _, rfl⟩
  rw [e9] at la sn g9 ⊢
  simp only [List.nil_append] at la sn g9 ⊢
  obtain ⟨m, r10, e10⟩ : ∃ c r, K.rbelow 13 r9 = (c, r) := ⟨_, _, rfl⟩
  have g10 : r10.1.length < 2 ^ 48 := by have := rbelow_len 13 r9; rw [e10] at this; exact Nat.lt_of_le_of_lt this g9
  have h10 := below_at (k + 1) M 13 r9 g9
  have b10 := rbelow_lt 13 r9 (by omega) (by omega)
  rw [e10] at h10 b10 ⊢
  simp only at h10 b10 ⊢
  obtain ⟨Q, rfl⟩ : ∃ N : Nat, m = N := ⟨m.toNat, by omega⟩
  rw [Int.toNat_natCast]
  have sm := rmems_n Q r10
  have lb := fun r => l13b k M r S Q (by omega) Q 0 (Q + 1) [] r10 rfl g10 (by omega) (by omega)
  obtain ⟨Ms, r11, e11⟩ : ∃ c r, rmems Q r10 = (c, r) := ⟨_, _, rfl⟩
  rw [e11] at lb sm ⊢
  simp only [List.nil_append] at lb sm ⊢
  have hdone := done_at (k + 5) (ro M) r11 false true
  have hR := rec_read (ro M) ⟨c, e, d, sl, mk_, bu, decide (gr = 1), S, Ms⟩ (by simp only; omega) (by simp only; omega) false
  have hgood := fun l hs hm => good_ev (k + 2) (mk l :: ro M) _ _ _ (hR l hs hm)
  simp only [ro_length, List.length_cons] at hnew hdone hgood
  clear e1 e2 e3 e4 e5 e6 e7 e8 e9 e10 e11 hR
  have hperm : ∀ a b c l, mk ((0, a) :: (4004, b) :: (8000, c) :: l) = mk ((8000, c) :: (0, a) :: (4004, b) :: l) := by
    intro a b c l
    funext j
    simp only [mk]
    by_cases j1 : j = 0
    · subst j1; rfl
    · by_cases j2 : j = 4004
      · subst j2; rfl
      · by_cases j3 : j = 8000
        · subst j3; rfl
        · simp only [if_neg j1, if_neg j2, if_neg j3]
  simp only [rdC, K.rc] at h1 h2 h3 h4 h5 h6 h7 h8 h10 hdone hnew
  rw [call_fn (f := 13) (by rfl) (by simp)]
  simp (disch := first | omega | (simp; done) | (simp; omega)) [hnew, h1, h2, ro_length]
  have l0 : fgt a13_0 (rnd0 (some (e13_0 (P0 M 0) (.ptr (some ⟨M.length, 4004, 2, 0⟩)) (P0 M 8000) (.agg [.ptr (some ⟨M.length, 8000, 9, 2⟩), .ptr (some ⟨M.length, 8000, 9, 3⟩), .ptr (some ⟨M.length, 8000, 9, 4⟩), .ptr (some ⟨M.length, 8000, 9, 5⟩)]) (.int .i64 0),
      mk [(0, z9), (4004, rdC r2), (8000, rC ⟨c, e, 0, 0, 0, 0, false, [], []⟩ (.slice none 0 0) (.slice none 0 0))] :: M)) k13_0 (callFn SP (k + 6)) s13_b0 5) =
      some (.exit 0, x13_0 (P0 M 0) (.ptr (some ⟨M.length, 4004, 2, 0⟩)) (P0 M 8000), mk (L13 M.length ⟨c, e, d, sl, mk_, bu, false, [], []⟩ [] [] r6) :: M) := by
    simp only [P0, L13, rdC, rC, rcells, z9, mV, mB, sW, sB]
    rw [rnd0_some]
    conv => lhs; arg 2; arg 1; rw [s13_b0]
    simp (disch := first | omega | (simp; done) | (simp; omega)) [IntWalk.i64_in, h3, h4, h5, h6]
    rw [rnd0_some]
    conv => lhs; arg 2; arg 1; rw [s13_b0]
    simp (disch := first | omega | (simp; done) | (simp; omega)) [IntWalk.i64_in, h3, h4, h5, h6]
    rw [rnd0_some]
    conv => lhs; arg 2; arg 1; rw [s13_b0]
    simp (disch := first | omega | (simp; done) | (simp; omega)) [IntWalk.i64_in, h3, h4, h5, h6]
    rw [rnd0_some]
    conv => lhs; arg 2; arg 1; rw [s13_b0]
    simp (disch := first | omega | (simp; done) | (simp; omega)) [IntWalk.i64_in, h3, h4, h5, h6]
    rw [rnd0_some]
    conv => lhs; arg 2; arg 1; rw [s13_b0]
    simp (disch := first | omega | (simp; done) | (simp; omega)) [IntWalk.i64_in, h3, h4, h5, h6, hperm]
  rw [ev_loop 5 (by simp [P0, z9, rC, rcells, rdC]) l0 (by omega)]
  simp (disch := first | omega | (simp; done) | (simp; omega)) [L13, P0, z9, rC, rcells, rdC, sW, sB, mV, mB, h7, h8]
  rw [ev_loop (N + 1) (by simp [L13, P0, z9, rC, rcells, rdC, sW, sB, mV, mB]) (la ⟨c, e, d, sl, mk_, bu, decide (gr = 1), [], []⟩) (by omega)]
  by_cases hS : S = []
  · subst hS
    simp (disch := first | omega | (simp; done) | (simp; omega)) [L13, P0, z9, rC, rcells, rdC, sW, sB, mV, mB, h10]
    by_cases hM : Ms = []
    · subst hM
      rw [ev_loop (Q + 1) (by simp [L13, P0, z9, rC, rcells, rdC, sW, sB, mV, mB]) (lb ⟨c, e, d, sl, mk_, bu, decide (gr = 1), [], []⟩) (by omega)]
      have hgood' := hgood
      simp [recV, rcells, sW, mV] at hgood'
      have hml : ∀ Ms : List Mb, (Ms.flatMap mc).length = 3 * Ms.length := fun Ms => by rw [flat_len mc_len]; omega
      by_cases hd : K.rdone r11 = 0
      · cases hg : goodP ⟨c, e, d, sl, mk_, bu, decide (gr = 1), [], []⟩
        · rw [hg] at hgood'
          simp (disch := first | omega | (simp; done) | (simp; omega)) [L13, P0, z9, rC, rcells, rdC, sW, sB, mV, mB, hdone, hgood', hd, hg, hml, ro_length, recV, zeroR]
        · exact absurd rfl (good_ne' hg).1
      · simp (disch := first | omega | (simp; done) | (simp; omega)) [L13, P0, z9, rC, rcells, rdC, sW, sB, mV, mB, hdone, hd, hml, ro_length, recV, zeroR]
    · rw [ev_loop (Q + 1) (by simp [L13, P0, z9, rC, rcells, rdC, sW, sB, mV, mB]) (lb ⟨c, e, d, sl, mk_, bu, decide (gr = 1), [], []⟩) (by omega)]
      have hgood' := hgood
      simp [recV, rcells, sW, mV, hM] at hgood'
      have hml : ∀ Ms : List Mb, (Ms.flatMap mc).length = 3 * Ms.length := fun Ms => by rw [flat_len mc_len]; omega
      by_cases hd : K.rdone r11 = 0
      · cases hg : goodP ⟨c, e, d, sl, mk_, bu, decide (gr = 1), [], Ms⟩
        · rw [hg] at hgood'
          have hml := hml Ms; generalize hFF : Ms.flatMap mc = FF at *
          simp (disch := first | omega | (simp; done) | (simp; omega)) [L13, P0, z9, rC, rcells, rdC, sW, sB, mV, mB, hdone, hgood', hd, hg, hml, ro_length, recV, zeroR, hM, hFF, -List.flatMap_append]
        · exact absurd rfl (good_ne' hg).1
      · have hml := hml Ms; generalize hFF : Ms.flatMap mc = FF at *
        simp (disch := first | omega | (simp; done) | (simp; omega)) [L13, P0, z9, rC, rcells, rdC, sW, sB, mV, mB, hdone, hd, hml, ro_length, recV, zeroR, hM, hFF, -List.flatMap_append]
  · simp (disch := first | omega | (simp; done) | (simp; omega)) [L13, P0, z9, rC, rcells, rdC, sW, sB, mV, mB, h10, hS]
    by_cases hM : Ms = []
    · subst hM
      rw [ev_loop (Q + 1) (by simp [L13, P0, z9, rC, rcells, rdC, sW, sB, mV, mB, hS]) (lb ⟨c, e, d, sl, mk_, bu, decide (gr = 1), [], []⟩) (by omega)]
      have hgood' := hgood
      simp [recV, rcells, sW, mV, hS] at hgood'
      have hml : ∀ Ms : List Mb, (Ms.flatMap mc).length = 3 * Ms.length := fun Ms => by rw [flat_len mc_len]; omega
      by_cases hd : K.rdone r11 = 0
      · cases hg : goodP ⟨c, e, d, sl, mk_, bu, decide (gr = 1), S, []⟩
        · rw [hg] at hgood'
          simp (disch := first | omega | (simp; done) | (simp; omega)) [L13, P0, z9, rC, rcells, rdC, sW, sB, mV, mB, hdone, hgood', hd, hg, hml, ro_length, recV, zeroR, hS]
        · exact absurd rfl (good_ne' hg).2
      · simp (disch := first | omega | (simp; done) | (simp; omega)) [L13, P0, z9, rC, rcells, rdC, sW, sB, mV, mB, hdone, hd, hml, ro_length, recV, zeroR, hS]
    · rw [ev_loop (Q + 1) (by simp [L13, P0, z9, rC, rcells, rdC, sW, sB, mV, mB, hS]) (lb ⟨c, e, d, sl, mk_, bu, decide (gr = 1), [], []⟩) (by omega)]
      have hgood' := hgood
      simp [recV, rcells, sW, mV, hS, hM] at hgood'
      have hml : ∀ Ms : List Mb, (Ms.flatMap mc).length = 3 * Ms.length := fun Ms => by rw [flat_len mc_len]; omega
      by_cases hd : K.rdone r11 = 0
      · cases hg : goodP ⟨c, e, d, sl, mk_, bu, decide (gr = 1), S, Ms⟩
        · rw [hg] at hgood'
          have hml := hml Ms; generalize hFF : Ms.flatMap mc = FF at *
          simp (disch := first | omega | (simp; done) | (simp; omega)) [L13, P0, z9, rC, rcells, rdC, sW, sB, mV, mB, hdone, hgood', hd, hg, hml, ro_length, recV, zeroR, hS, hM, hFF, -List.flatMap_append]
        · rw [hg] at hgood'
          have hml := hml Ms; generalize hFF : Ms.flatMap mc = FF at *
          simp (disch := first | omega | (simp; done) | (simp; omega)) [L13, P0, z9, rC, rcells, rdC, sW, sB, mV, mB, hdone, hgood', hd, hg, hml, ro_length, recV, zeroR, hS, hM, hFF, -List.flatMap_append]
      · have hml := hml Ms; generalize hFF : Ms.flatMap mc = FF at *
        simp (disch := first | omega | (simp; done) | (simp; omega)) [L13, P0, z9, rC, rcells, rdC, sW, sB, mV, mB, hdone, hd, hml, ro_length, recV, zeroR, hS, hM, hFF, -List.flatMap_append]

end Go.Proofs.Ytaennaoaoahjmaa
