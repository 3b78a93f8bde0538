/-
  The record's law SuperCopies, evaluated.
-/
import Derived.Test.YtaennaoaoahjmaaI
import Derived.Test.YtaennaoaoahjmaaJ
set_option maxRecDepth 100000
set_option linter.unusedSimpArgs false
set_option linter.unusedVariables false
namespace Go.Proofs.Ytaennaoaoahjmaa
open Go.Det

theorem rec_topM {M : Mem} {l : List (Nat × Con)} {R : Rec} {e j d2 z2 n2 : Nat} {r2 f2 : Bool} (h0 : R.seats = []) (h2 : mk l j = some (.cells (R.mems.flatMap mc) r2 f2))
    (hm : R.mems.length ≤ 20) (hd2 : d2 = M.length) (hz2 : z2 = 3 * R.mems.length) (hn2 : n2 = R.mems.length) :
    IsRec (mk l :: M) R (.slice none 0 e) (.slice (some ⟨d2, j, z2, 0⟩) n2 3) :=
  ⟨by rw [h0]; exact WS.nil, WM.top h2 hd2 (by rw [hz2, flat_len mc_len]; omega) hn2, by rw [h0]; simp, by omega⟩
theorem rec_topS {M : Mem} {l : List (Nat × Con)} {R : Rec} {e i d z1 n1 : Nat} {r1 f1 : Bool} (h0 : R.mems = []) (h1 : mk l i = some (.cells (R.seats.map (AV.int .i64)) r1 f1))
    (hs : R.seats.length ≤ 30) (hd : d = M.length) (hz1 : z1 = R.seats.length) (hn1 : n1 = R.seats.length) :
    IsRec (mk l :: M) R (.slice (some ⟨d, i, z1, 0⟩) n1 1) (.slice none 0 e) :=
  ⟨WS.top' h1 hd hz1 hn1, by rw [h0]; exact WM.nil, by omega, by rw [h0]; simp⟩
theorem rec_topN {M : Mem} {R : Rec} {e e' : Nat} (h0 : R.seats = []) (h1 : R.mems = []) : IsRec M R (.slice none 0 e) (.slice none 0 e') :=
  ⟨by rw [h0]; exact WS.nil, by rw [h1]; exact WM.nil, by rw [h0]; simp, by rw [h1]; simp⟩

set_option maxHeartbeats 8000000 in
theorem copies_core (M : Mem) (hw : ∀ l, callFn SP 12 10 [] (mk l :: ro M) = some (.bool true, [], mk l :: ro M)) (r : Rec) (sv dv : AV) (seats : List Int) (ds : List Dk) (by_ : Int)
    (hs : WS M (AV.int .i64) sv seats) (hd : WM M 4 dc dv ds) : callFn SP 13 6 [recV r sv dv, .int .i64 by_] M = some (.bool true, [], M) := by
  have hrec := fun l => records_ev 11 (mk l :: ro M) r sv dv seats ds (hs.ro.cons _) (hd.ro.cons _)
  have hRs : (recOf r seats ds).seats.length ≤ 30 := by simp [recOf]; omega
  have hRm : (recOf r seats ds).mems.length ≤ 20 := by simp [recOf]; omega
  generalize recOf r seats ds = R at hrec hRs hRm
  rw [call_fn (f := 6) (by rfl) (by simp)]
  obtain ⟨count, epoch, data, slots, mark, built, growing, seats0, mems0⟩ := r
  by_cases hS : R.seats = []
  · by_cases hM : R.mems = []
    · have hcopy : ∀ l, callFn SP (10 + 2) 15 [recV R (.slice none 0 1) (.slice none 0 0)] (mk l :: ro M) = some (recV R (.slice none 0 0) (.slice none 0 0), [], mk l :: ro M) := by
        intro l
        have := copy_ev 10 (mk l :: ro M) R _ _ (rec_topN (M := mk l :: ro M) (e := 1) (e' := 0) hS hM) (by omega) (fun h => rfl) (fun h => rfl)
        simpa [cS, cM, cC, hN1, hS, hM, ro_length] using this
      have hsame : ∀ l e1 e2, callFn SP (11 + 1) 14 [recV R (.slice none 0 e1) (.slice none 0 0), recV R (.slice none 0 e2) (.slice none 0 0)] (mk l :: ro M) = some (.bool true, [], mk l :: ro M) := by
        intro l e1 e2
        have := same_ev 11 (mk l :: ro M) R R _ _ _ _ (rec_topN (M := mk l :: ro M) (e := e1) (e' := 0) hS hM) (rec_topN (M := mk l :: ro M) (e := e2) (e' := 0) hS hM)
        simpa using this
      simp only [recV, rcells, sV, mV, hsN, outC, if_pos hS, if_pos hM] at hrec hcopy hsame
      have hml : (R.mems.flatMap mc).length = 3 * R.mems.length := by rw [flat_len mc_len]; omega
      generalize hFF : R.mems.flatMap mc = FF at hml hrec hcopy hsame
      simp (disch := first | omega | (simp; done) | (simp; omega)) [recV, rcells, hrec, hcopy, hsame, hw, ro_length, hml]
      have ha := l6a (callFn SP 12) M by_ R FF R.seats.length rfl hRs R.seats.length 0 (R.seats.length + 1) (by omega) (by omega)
      have hb := l6b (callFn SP 12) M R (xl by_ R.seats R.seats.length) R.mems.length rfl hRm R.mems.length 0 (R.mems.length + 1) (by omega) (by omega)
      have x0 : xl by_ R.seats 0 = R.seats := by simp [xl]
      rw [x0] at ha
      simp only [ow, hFF] at hb
      rw [ev_loop (R.seats.length + 1) (by simp [K6, jm, jc, sC, mC, rB, cB, rcells, hS, hM, hFF]) ha (by omega)]
      simp [K6, jm, jc, sC, mC, rB, cB, rcells, hS, hM, hFF]
      rw [ev_loop (R.mems.length + 1) (by simp [K6, jm, jc, sC, mC, rB, cB, rcells, hS, hM, hFF]) hb (by omega)]
      simp (disch := first | omega | (simp; done) | (simp; omega)) [K6, jm, jc, sC, mC, rB, cB, rcells, hS, hM, hFF, hsame]
    · have hcopy : ∀ l, mk l 4004 = some (.cells (R.mems.flatMap mc) false true) →
          callFn SP (10 + 2) 15 [recV R (.slice none 0 1) (.slice (some ⟨M.length, 4004, 3 * R.mems.length, 0⟩) R.mems.length 3)] (mk l :: ro M) =
            some (recV R (.slice none 0 0) (.slice (some ⟨M.length + 1, 0, 3 * R.mems.length, 0⟩) R.mems.length 3), [.cells (R.mems.flatMap mc) true true], mk l :: ro M) := by
        intro l e2
        have := copy_ev 10 (mk l :: ro M) R _ _ (rec_topM (M := ro M) (e := 1) (d2 := M.length) hS e2 hRm (by rw [ro_length]) rfl rfl) (by omega) (fun h => rfl) (fun h => absurd h hM)
        simpa [cS, cM, cC, hN1, hS, hM, ro_length] using this
      have hsame : ∀ l e1 j e2 j', mk l j = some (.cells (R.mems.flatMap mc) false true) → mk l j' = some (.cells (R.mems.flatMap mc) false true) →
          callFn SP (11 + 1) 14 [recV R (.slice none 0 e1) (.slice (some ⟨M.length, j, 3 * R.mems.length, 0⟩) R.mems.length 3), recV R (.slice none 0 e2) (.slice (some ⟨M.length, j', 3 * R.mems.length, 0⟩) R.mems.length 3)] (mk l :: ro M) =
            some (.bool true, [], mk l :: ro M) := by
        intro l e1 j e2 j' h1 h2
        have := same_ev 11 (mk l :: ro M) R R _ _ _ _ (rec_topM (M := ro M) (e := e1) (d2 := M.length) hS h1 hRm (by rw [ro_length]) rfl rfl) (rec_topM (M := ro M) (e := e2) (d2 := M.length) hS h2 hRm (by rw [ro_length]) rfl rfl)
        simpa using this
      simp only [recV, rcells, sV, mV, hsN, outC, if_pos hS, if_neg hM] at hrec hcopy hsame
      have hml : (R.mems.flatMap mc).length = 3 * R.mems.length := by rw [flat_len mc_len]; omega
      generalize hFF : R.mems.flatMap mc = FF at hml hrec hcopy hsame
      simp (disch := first | omega | (simp; done) | (simp; omega)) [recV, rcells, hrec, hcopy, hsame, hw, ro_length, hml]
      have ha := l6a (callFn SP 12) M by_ R FF R.seats.length rfl hRs R.seats.length 0 (R.seats.length + 1) (by omega) (by omega)
      have hb := l6b (callFn SP 12) M R (xl by_ R.seats R.seats.length) R.mems.length rfl hRm R.mems.length 0 (R.mems.length + 1) (by omega) (by omega)
      have x0 : xl by_ R.seats 0 = R.seats := by simp [xl]
      rw [x0] at ha
      simp only [ow, hFF] at hb
      rw [ev_loop (R.seats.length + 1) (by simp [K6, jm, jc, sC, mC, rB, cB, rcells, hS, hM, hFF]) ha (by omega)]
      simp [K6, jm, jc, sC, mC, rB, cB, rcells, hS, hM, hFF]
      rw [ev_loop (R.mems.length + 1) (by simp [K6, jm, jc, sC, mC, rB, cB, rcells, hS, hM, hFF]) hb (by omega)]
      simp (disch := first | omega | (simp; done) | (simp; omega)) [K6, jm, jc, sC, mC, rB, cB, rcells, hS, hM, hFF, hsame]
  by_cases hM : R.mems = []
  · have hcopy : ∀ l, mk l 4004 = some (.cells (R.seats.map (AV.int .i64)) false true) →
        callFn SP (10 + 2) 15 [recV R (.slice (some ⟨M.length, 4004, R.seats.length, 0⟩) R.seats.length 1) (.slice none 0 0)] (mk l :: ro M) =
          some (recV R (.slice (some ⟨M.length + 1, 0, R.seats.length, 0⟩) R.seats.length 1) (.slice none 0 0), [.cells (R.seats.map (AV.int .i64)) true true], mk l :: ro M) := by
      intro l e1
      have := copy_ev 10 (mk l :: ro M) R _ _ (rec_topS (M := ro M) (e := 0) (d := M.length) hM e1 hRs (by rw [ro_length]) rfl rfl) (by omega) (fun h => absurd h hS) (fun h => rfl)
      simpa [cS, cM, cC, hN1, hS, hM, ro_length] using this
    have hsame : ∀ l i i', mk l i = some (.cells (R.seats.map (AV.int .i64)) false true) → mk l i' = some (.cells (R.seats.map (AV.int .i64)) false true) →
        callFn SP (11 + 1) 14 [recV R (.slice (some ⟨M.length, i, R.seats.length, 0⟩) R.seats.length 1) (.slice none 0 0), recV R (.slice (some ⟨M.length, i', R.seats.length, 0⟩) R.seats.length 1) (.slice none 0 0)] (mk l :: ro M) =
          some (.bool true, [], mk l :: ro M) := by
      intro l i i' h1 h2
      have := same_ev 11 (mk l :: ro M) R R _ _ _ _ (rec_topS (M := ro M) (e := 0) (d := M.length) hM h1 hRs (by rw [ro_length]) rfl rfl) (rec_topS (M := ro M) (e := 0) (d := M.length) hM h2 hRs (by rw [ro_length]) rfl rfl)
      simpa using this
    simp only [recV, rcells, sV, mV, hsN, outC, if_neg hS, if_pos hM] at hrec hcopy hsame
    have hml : (R.mems.flatMap mc).length = 3 * R.mems.length := by rw [flat_len mc_len]; omega
    generalize hFF : R.mems.flatMap mc = FF at hml hrec hcopy hsame
    simp (disch := first | omega | (simp; done) | (simp; omega)) [recV, rcells, hrec, hcopy, hsame, hw, ro_length, hml]
    have ha := l6a (callFn SP 12) M by_ R FF R.seats.length rfl hRs R.seats.length 0 (R.seats.length + 1) (by omega) (by omega)
    have hb := l6b (callFn SP 12) M R (xl by_ R.seats R.seats.length) R.mems.length rfl hRm R.mems.length 0 (R.mems.length + 1) (by omega) (by omega)
    have x0 : xl by_ R.seats 0 = R.seats := by simp [xl]
    rw [x0] at ha
    simp only [ow, hFF] at hb
    rw [ev_loop (R.seats.length + 1) (by simp [K6, jm, jc, sC, mC, rB, cB, rcells, hS, hM, hFF]) ha (by omega)]
    simp [K6, jm, jc, sC, mC, rB, cB, rcells, hS, hM, hFF]
    rw [ev_loop (R.mems.length + 1) (by simp [K6, jm, jc, sC, mC, rB, cB, rcells, hS, hM, hFF]) hb (by omega)]
    simp (disch := first | omega | (simp; done) | (simp; omega)) [K6, jm, jc, sC, mC, rB, cB, rcells, hS, hM, hFF, hsame]
  have hcopy : ∀ l, mk l 4004 = some (.cells (R.seats.map (AV.int .i64)) false true) → mk l 4005 = some (.cells (R.mems.flatMap mc) false true) →
      callFn SP (10 + 2) 15 [recV R (.slice (some ⟨M.length, 4004, R.seats.length, 0⟩) R.seats.length 1) (.slice (some ⟨M.length, 4005, 3 * R.mems.length, 0⟩) R.mems.length 3)] (mk l :: ro M) =
        some (recV R (.slice (some ⟨M.length + 1, 0, R.seats.length, 0⟩) R.seats.length 1) (.slice (some ⟨M.length + 1, 1, 3 * R.mems.length, 0⟩) R.mems.length 3), [.cells (R.seats.map (AV.int .i64)) true true, .cells (R.mems.flatMap mc) true true], mk l :: ro M) := by
    intro l e1 e2
    have := copy_ev 10 (mk l :: ro M) R _ _ (rec_top (M := ro M) (d := M.length) (d2 := M.length) e1 e2 hRs hRm (by rw [ro_length]) (by rw [ro_length]) rfl rfl rfl rfl) (by omega) (fun h => absurd h hS) (fun h => absurd h hM)
    simpa [cS, cM, cC, hN1, hS, hM, ro_length] using this
  have hsame : ∀ l i j i' j', mk l i = some (.cells (R.seats.map (AV.int .i64)) false true) → mk l j = some (.cells (R.mems.flatMap mc) false true) → mk l i' = some (.cells (R.seats.map (AV.int .i64)) false true) → mk l j' = some (.cells (R.mems.flatMap mc) false true) →
      callFn SP (11 + 1) 14 [recV R (.slice (some ⟨M.length, i, R.seats.length, 0⟩) R.seats.length 1) (.slice (some ⟨M.length, j, 3 * R.mems.length, 0⟩) R.mems.length 3), recV R (.slice (some ⟨M.length, i', R.seats.length, 0⟩) R.seats.length 1) (.slice (some ⟨M.length, j', 3 * R.mems.length, 0⟩) R.mems.length 3)] (mk l :: ro M) =
        some (.bool true, [], mk l :: ro M) := by
    intro l i j i' j' e1 e2 e3 e4
    have := same_ev 11 (mk l :: ro M) R R _ _ _ _ (rec_top (M := ro M) (d := M.length) (d2 := M.length) e1 e2 hRs hRm (by rw [ro_length]) (by rw [ro_length]) rfl rfl rfl rfl) (rec_top (M := ro M) (d := M.length) (d2 := M.length) e3 e4 hRs hRm (by rw [ro_length]) (by rw [ro_length]) rfl rfl rfl rfl)
    simpa using this
  simp only [recV, rcells, sV, mV, hsN, outC, if_neg hS, if_neg hM] at hrec hcopy hsame
  have hml : (R.mems.flatMap mc).length = 3 * R.mems.length := by rw [flat_len mc_len]; omega
  generalize hFF : R.mems.flatMap mc = FF at hml hrec hcopy hsame
  simp (disch := first | omega | (simp; done) | (simp; omega)) [recV, rcells, hrec, hcopy, hsame, hw, ro_length, hml]
  have ha := l6a (callFn SP 12) M by_ R FF R.seats.length rfl hRs R.seats.length 0 (R.seats.length + 1) (by omega) (by omega)
  have hb := l6b (callFn SP 12) M R (xl by_ R.seats R.seats.length) R.mems.length rfl hRm R.mems.length 0 (R.mems.length + 1) (by omega) (by omega)
  have x0 : xl by_ R.seats 0 = R.seats := by simp [xl]
  rw [x0] at ha
  simp only [ow, hFF] at hb
  rw [ev_loop (R.seats.length + 1) (by simp [K6, jm, jc, sC, mC, rB, cB, rcells, hS, hM, hFF]) ha (by omega)]
  simp [K6, jm, jc, sC, mC, rB, cB, rcells, hS, hM, hFF]
  rw [ev_loop (R.mems.length + 1) (by simp [K6, jm, jc, sC, mC, rB, cB, rcells, hS, hM, hFF]) hb (by omega)]
  simp (disch := first | omega | (simp; done) | (simp; omega)) [K6, jm, jc, sC, mC, rB, cB, rcells, hS, hM, hFF, hsame]

theorem ev_SuperCopies (s : Scope) (args : List AV) (h : ArgsShp s [rawTy, .int .i64] args) : ∃ k M', callFn SP k 6 args [s, mk []] = some (.bool true, [], M') := by
  obtain ⟨v, vs, rfl, hv, h⟩ := h
  obtain ⟨b, vs, rfl, hb, h⟩ := h
  have h0 : vs = [] := h
  subst h0
  obtain ⟨r, sv, dv, seats, ds, rfl, hs, hd, hsl, hdl⟩ := raw_shp (mk []) hv
  obtain ⟨by_, rfl, hby⟩ := ArgShp_i64 hb
  exact ⟨13, [s, mk []], copies_core [s, mk []] (fun l => wakes_ev (mk l) (roScope s) (roScope (mk []))) r sv dv seats ds by_ hs hd⟩

end Go.Proofs.Ytaennaoaoahjmaa
