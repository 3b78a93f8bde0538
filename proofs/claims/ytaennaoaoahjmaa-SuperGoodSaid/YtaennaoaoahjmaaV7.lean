/-
  The record's law SuperGood, evaluated.
-/
import Derived.Test.YtaennaoaoahjmaaV4
import Derived.Test.YtaennaoaoahjmaaV5
import Derived.Test.YtaennaoaoahjmaaM2
import Derived.Test.YtaennaoaoahjmaaK
set_option maxRecDepth 100000
set_option linter.unusedSimpArgs false
set_option linter.unusedVariables false
namespace Go.Proofs.Ytaennaoaoahjmaa
open Go.Det

def l64 (r : Rec) : List (BitVec 64) := [r.count, r.epoch, BitVec.ofInt 64 r.data, BitVec.ofInt 64 r.slots, BitVec.ofInt 64 r.mark, BitVec.ofInt 64 r.built, BitVec.ofInt 64 (one r.growing), BitVec.ofInt 64 (r.seats.length : Int)]

theorem l64_putT (r : Rec) : nums6 (l64 r ++ r.seats.map (BitVec.ofInt 64) ++ [BitVec.ofInt 64 (r.mems.length : Int)]) ++ mTs r.mems = putT r := by
  unfold putT nums
  simp [nums6, l64, head6, b8, Function.comp_def]

set_option maxHeartbeats 16000000 in
theorem rput_ev (k : Nat) (M : Mem) (r : Rec) (sv mv : AV) (h : IsRec M r sv mv) :
    callFn SP (k + 4) 9 [recV r sv mv] M = some (.tuple [.str (if goodP r then putT r else []), .int .i64 (if goodP r then 0 else 4)], [], M) := by
  have hgood := fun l => rgood_ev (k + 1) (mk l :: ro M) r sv mv (h.ro.cons _)
  simp only [rgood_good] at hgood
  have i1 := WS_ids h.s
  have i2 := WM_ids h.m
  have n1 := h.s.len
  have n2 := h.m.len
  cases hgd : goodP r
  · rw [hgd] at hgood
    obtain ⟨count, epoch, data, slots, mark, built, growing, seats, mems⟩ := r
    rw [call_fn (f := 9) (by rfl) (by simp)]
    simp only [recV, rcells] at hgood ⊢
    simp [hgood]
  · have hg32 : ∀ m ∈ r.mems, m.top.length = 32 ∧ m.log.length = 32 := fun m hm => (good_mems hgd m hm).2.2
    have hsl : r.seats.length ≤ 11 ∧ r.mems.length ≤ 12 := by
      have hz : rszP r = true := by
        have := rgood_good r
        rw [hgd] at this
        unfold rgoodP at this
        cases hz : rszP r
        · rw [hz] at this; cases this
        · rfl
      have := rszP_true hz
      refine ⟨?_, this.2.2.2.2.2.2.2.2.2.2⟩
      have h1 := this.2.1
      have h2 := this.2.2.1
      split at h1 <;> split at h2 <;> simp_all <;> omega
    rw [hgd] at hgood
    have ha := l9a (callFn SP (k + 3)) M r sv mv (AV.under 0 sv && AV.under 0 mv && (sv.noNil && mv.noNil)) h r.seats.length rfl (by omega) r.seats.length 0 (r.seats.length + 1) 8 (l64 r) rfl rfl (by omega) (by omega)
    have hb := l9b (k + 2) M r sv mv (AV.under 0 sv && AV.under 0 mv && (sv.noNil && mv.noNil)) i1 i2 (l64 r ++ r.seats.map (BitVec.ofInt 64) ++ [BitVec.ofInt 64 (r.mems.length : Int)]) (8 + r.seats.length + 1) (by simp [l64]; omega) (by omega) (8 + r.seats.length + 1) 0 (8 + r.seats.length + 2) [] (by omega) (by omega) (by simp; omega)
    have hln : (nums6 (l64 r ++ r.seats.map (BitVec.ofInt 64) ++ [BitVec.ofInt 64 (r.mems.length : Int)])).length < 2 ^ 20 := by
      have : ∀ l : List (BitVec 64), (nums6 l).length = 8 * l.length := by
        intro l
        induction l with
        | nil => rfl
        | cons x l ih => simp only [nums6, List.map_cons, List.flatten_cons, List.length_append, List.length_cons, K.be8_len] at ih ⊢; rw [ih]; omega
      rw [this]; simp [l64]; omega
    have hc := l9c (k + 1) M r sv mv (AV.under 0 sv && AV.under 0 mv && (sv.noNil && mv.noNil)) h r.mems.length rfl (by omega) hg32 r.mems.length 0 (r.mems.length + 1) (nums6 (l64 r ++ r.seats.map (BitVec.ofInt 64) ++ [BitVec.ofInt 64 (r.mems.length : Int)])) (by omega) (by omega) (by omega)
    rw [List.drop_zero] at ha hb hc
    rw [List.nil_append] at hb
    rw [l64_putT] at hc
    generalize nums6 (l64 r ++ r.seats.map (BitVec.ofInt 64) ++ [BitVec.ofInt 64 (r.mems.length : Int)]) = NN at *
    generalize putT r = PT at *
    have e1 : (l64 r).map u64 = [u64 r.count, u64 r.epoch, u64 (BitVec.ofInt 64 r.data), u64 (BitVec.ofInt 64 r.slots), u64 (BitVec.ofInt 64 r.mark), u64 (BitVec.ofInt 64 r.built), u64 (BitVec.ofInt 64 (one r.growing)), u64 (BitVec.ofInt 64 (r.seats.length : Int))] := rfl
    simp only [List.map_append, e1, List.map_map] at ha hb
    generalize hSC : r.seats.map (u64 ∘ BitVec.ofInt 64) = SC at *
    have hscl : SC.length = r.seats.length := by rw [← hSC, List.length_map]
    obtain ⟨CC, hCC⟩ : ∃ CC, [u64 r.count, u64 r.epoch, u64 (BitVec.ofInt 64 r.data), u64 (BitVec.ofInt 64 r.slots), u64 (BitVec.ofInt 64 r.mark), u64 (BitVec.ofInt 64 r.built), u64 (BitVec.ofInt 64 (one r.growing)), u64 (BitVec.ofInt 64 (r.seats.length : Int))] ++ SC = CC := ⟨_, rfl⟩
    have hccl : CC.length = 8 + r.seats.length := by rw [← hCC, List.length_append, hscl]; rfl
    rw [hCC] at ha hb
    clear hCC hSC hscl
    have hlim : (8 + r.seats.length + 1) * 8 ≤ 35184372088832 ∧ 8 + r.seats.length ≤ 35184372088831 := by omega
    have hp : ∀ a b, mk [((0 : Nat), a), (28088, b)] = mk [(28088, b), (0, a)] := by
      intro a b
      funext j
      simp only [mk]
      by_cases j1 : j = 0
      · subst j1; rfl
      · simp only [if_neg j1]
    obtain ⟨count, epoch, data, slots, mark, built, growing, seats, mems⟩ := r
    simp only at *
    rw [call_fn (f := 9) (by rfl) (by simp)]
    simp only [recV, rcells] at hgood ⊢
    cases growing
    · simp only [one, Bool.false_eq_true, if_false] at ha hb
      simp (disch := omega) [hgood, n1]
      rw [ev_loop (seats.length + 1) (by simp [i1, i2, P0, rCell, rcells, hp]) ha (by omega)]
      simp (disch := omega) [n2, P0, rCell, rcells, hccl, hlim]
      rw [ev_loop (8 + seats.length + 2) (by simp [i1, i2, P0, rCell, rcells, hccl]) hb (by omega)]
      simp (disch := omega) [P0, rCell, rcells]
      rw [ev_loop (mems.length + 1) (by simp [i1, i2, P0, rCell, rcells]) hc (by omega)]
      simp
    · simp only [one, if_true] at ha hb
      simp (disch := omega) [hgood, n1]
      rw [ev_loop (seats.length + 1) (by simp [i1, i2, P0, rCell, rcells, hp]) ha (by omega)]
      simp (disch := omega) [n2, P0, rCell, rcells, hccl, hlim]
      rw [ev_loop (8 + seats.length + 2) (by simp [i1, i2, P0, rCell, rcells, hccl]) hb (by omega)]
      simp (disch := omega) [P0, rCell, rcells]
      rw [ev_loop (mems.length + 1) (by simp [i1, i2, P0, rCell, rcells]) hc (by omega)]
      simp

end Go.Proofs.Ytaennaoaoahjmaa

namespace Go.Proofs.Ytaennaoaoahjmaa
open Go.Det

theorem rgood_at (M : Mem) (R : Rec) (sv mv : AV) (h : IsRec M R sv mv) : callFn SP 12 12 [recV R sv mv] M = some (.bool (goodP R), [], M) := by
  rw [← rgood_good]
  exact rgood_ev 10 M R sv mv h

set_option maxHeartbeats 16000000 in
theorem good_core (M : Mem) (hw : ∀ l, callFn SP 12 10 [] (mk l :: ro M) = some (.bool true, [], mk l :: ro M)) (r : Rec) (sv dv : AV) (seats : List Int) (ds : List Dk)
    (hs : WS M (AV.int .i64) sv seats) (hd : WM M 4 dc dv ds) : callFn SP 13 3 [recV r sv dv] M = some (.bool true, [], M) := by
  have hrec := fun l => records_ev 11 (mk l :: ro M) r sv dv seats ds (hs.ro.cons _) (hd.ro.cons _)
  have hRs : (recOf r seats ds).seats.length ≤ 30 := by simp [recOf]; omega
  have hRm : (recOf r seats ds).mems.length ≤ 20 := by simp [recOf]; omega
  generalize recOf r seats ds = R at hrec hRs hRm
  obtain ⟨count, epoch, data, slots, mark, built, growing, seats0, mems0⟩ := r
  rw [call_fn (f := 3) (by rfl) (by simp)]
  have hml : (R.mems.flatMap mc).length = 3 * R.mems.length := by rw [flat_len mc_len]; omega
  have hA0 := fun M sv mv h => put_ev 7 M R sv mv h hRs hRm
  have hB0 := fun M sv mv h => good_ev 8 M R sv mv h
  have hC0 := fun M sv mv h => rput_ev 8 M R sv mv h
  have hD0 := fun M sv mv h => rgood_at M R sv mv h
  generalize (if goodP R = true then putT R else []) = TT at *
  generalize (if goodP R = true then (0 : Int) else 4) = EE at *
  generalize goodP R = GG at *
  by_cases hS : R.seats = []
  · by_cases hM : R.mems = []
    · have hI : ∀ l e e', IsRec (mk l :: ro M) R (.slice none 0 e) (.slice none 0 e') := fun l e e' => rec_topN hS hM
      have hA := fun l e e' => hA0 _ _ _ (hI l e e')
      have hB := fun l e e' => hB0 _ _ _ (hI l e e')
      have hC := fun l e e' => hC0 _ _ _ (hI l e e')
      have hD := fun l e e' => hD0 _ _ _ (hI l e e')
      simp only [recV, rcells, sV, mV, hsN, outC, if_pos hS, if_pos hM] at hrec hA hB hC hD
      generalize R.mems.flatMap mc = FF at *
      simp (disch := first | omega | (simp; done) | (simp; omega)) [recV, rcells, hrec, hw, ro_length, hml, hA, hB, hC, hD]
    · have hI : ∀ l j e z, mk l j = some (.cells (R.mems.flatMap mc) false true) → z = 3 * R.mems.length → IsRec (mk l :: ro M) R (.slice none 0 e) (.slice (some ⟨M.length, j, z, 0⟩) R.mems.length 3) := fun l j e z h hz => rec_topM hS h hRm (by rw [ro_length]) hz rfl
      have hA := fun l j e z h hz => hA0 _ _ _ (hI l j e z h hz)
      have hB := fun l j e z h hz => hB0 _ _ _ (hI l j e z h hz)
      have hC := fun l j e z h hz => hC0 _ _ _ (hI l j e z h hz)
      have hD := fun l j e z h hz => hD0 _ _ _ (hI l j e z h hz)
      simp only [recV, rcells, sV, mV, hsN, outC, if_pos hS, if_neg hM] at hrec hA hB hC hD
      generalize R.mems.flatMap mc = FF at *
      simp (disch := first | omega | (simp; done) | (simp; omega)) [recV, rcells, hrec, hw, ro_length, hml, hA, hB, hC, hD]
  · by_cases hM : R.mems = []
    · have hI : ∀ l i e, mk l i = some (.cells (R.seats.map (AV.int .i64)) false true) → IsRec (mk l :: ro M) R (.slice (some ⟨M.length, i, R.seats.length, 0⟩) R.seats.length 1) (.slice none 0 e) := fun l i e h => rec_topS hM h hRs (by rw [ro_length]) rfl rfl
      have hA := fun l i e h => hA0 _ _ _ (hI l i e h)
      have hB := fun l i e h => hB0 _ _ _ (hI l i e h)
      have hC := fun l i e h => hC0 _ _ _ (hI l i e h)
      have hD := fun l i e h => hD0 _ _ _ (hI l i e h)
      simp only [recV, rcells, sV, mV, hsN, outC, if_neg hS, if_pos hM] at hrec hA hB hC hD
      generalize R.mems.flatMap mc = FF at *
      simp (disch := first | omega | (simp; done) | (simp; omega)) [recV, rcells, hrec, hw, ro_length, hml, hA, hB, hC, hD]
    · have hI : ∀ l i j, mk l i = some (.cells (R.seats.map (AV.int .i64)) false true) → mk l j = some (.cells (R.mems.flatMap mc) false true) →
          IsRec (mk l :: ro M) R (.slice (some ⟨M.length, i, R.seats.length, 0⟩) R.seats.length 1) (.slice (some ⟨M.length, j, 3 * R.mems.length, 0⟩) R.mems.length 3) := fun l i j h h' => rec_top h h' hRs hRm (by rw [ro_length]) (by rw [ro_length]) rfl rfl rfl rfl
      have hA := fun l i j h h' => hA0 _ _ _ (hI l i j h h')
      have hB := fun l i j h h' => hB0 _ _ _ (hI l i j h h')
      have hC := fun l i j h h' => hC0 _ _ _ (hI l i j h h')
      have hD := fun l i j h h' => hD0 _ _ _ (hI l i j h h')
      simp only [recV, rcells, sV, mV, hsN, outC, if_neg hS, if_neg hM] at hrec hA hB hC hD
      generalize R.mems.flatMap mc = FF at *
      simp (disch := first | omega | (simp; done) | (simp; omega)) [recV, rcells, hrec, hw, ro_length, hml, hA, hB, hC, hD]

theorem ev_SuperGood (s : Scope) (args : List AV) (h : ArgsShp s [rawTy] args) : ∃ k M', callFn SP k 3 args [s, mk []] = some (.bool true, [], M') := by
  obtain ⟨v, vs, rfl, hv, h⟩ := h
  have h0 : vs = [] := h
  subst h0
  obtain ⟨r, sv, dv, seats, ds, rfl, hs, hd, hsl, hdl⟩ := raw_shp (mk []) hv
  exact ⟨13, [s, mk []], good_core [s, mk []] (fun l => wakes_ev (mk l) (roScope s) (roScope (mk []))) r sv dv seats ds hs hd⟩

end Go.Proofs.Ytaennaoaoahjmaa
