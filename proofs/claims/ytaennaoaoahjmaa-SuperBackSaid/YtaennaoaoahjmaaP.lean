/-
  The record's law SuperApart, of records without seats, or without members.
-/
import Derived.Test.YtaennaoaoahjmaaO
set_option maxRecDepth 100000
set_option linter.unusedSimpArgs false
set_option linter.unusedVariables false
namespace Go.Proofs.Ytaennaoaoahjmaa
open Go.Det

theorem good_ne {r : Rec} (h : goodP r = true) : r.seats ≠ [] ∧ r.mems ≠ [] := by
  simp only [goodP, Bool.and_eq_true] at h
  obtain ⟨h1, _, h3⟩ := h
  unfold sizesP at h1
  unfold seatsP at h3
  split at h1
  · cases h1
  rename_i hd
  split at h1
  · cases h1
  split at h1
  · cases h1
  have hl := of_decide_eq_true h1
  refine ⟨?_, fun hn => by rw [hn] at hl; simp at hl⟩
  intro hn
  have w1 : IntKind.wrap .i64 (r.data + 2) = r.data + 2 := IntWalk.i64_in _ (by omega)
  have w2 : IntKind.wrap .i64 (r.data + 2 + 1) = r.data + 2 + 1 := IntWalk.i64_in _ (by omega)
  rw [ite_not] at h3
  by_cases hA : (r.seats.length : Int) = (if r.growing then IntKind.wrap .i64 (IntKind.wrap .i64 (r.data + 2) + 1) else IntKind.wrap .i64 (r.data + 2))
  · rw [w1, w2, hn] at hA
    cases hg : r.growing <;> simp [hg] at hA <;> omega
  · rw [if_neg hA] at h3; cases h3

theorem put_bad (M : Mem) (R : Rec) (sv mv : AV) (h : IsRec M R sv mv) (h1 : R.seats.length ≤ 30) (h2 : R.mems.length ≤ 20) (hb : R.seats = [] ∨ R.mems = []) :
    callFn SP 12 8 [recV R sv mv] M = some (.tuple [.str [], .int .i64 4], [], M) := by
  have hg : goodP R = false := by
    cases hq : goodP R
    · rfl
    · have := good_ne hq
      rcases hb with hb | hb
      · exact absurd hb this.1
      · exact absurd hb this.2
  have := put_ev 7 M R sv mv h h1 h2
  rw [hg] at this
  exact this

theorem put_bN (M : Mem) : ∀ l (c e : BitVec 64) (d s m b : Int) (g : Bool) (x y : Nat),
      callFn SP 12 8 [.agg [u64 c, u64 e, .int .i64 d, .int .i64 s, .int .i64 m, .int .i64 b, .bool g, .slice none 0 x, .slice none 0 y]] (mk l :: ro M) = some (.tuple [.str [], .int .i64 4], [], mk l :: ro M) :=
  fun l c e d s m b g x y => put_bad (mk l :: ro M) ⟨c, e, d, s, m, b, g, [], []⟩ _ _ (rec_topN rfl rfl) (by simp) (by simp) (.inl rfl)

theorem put_bM (M : Mem) (Ms : List Mb) (n2 : Nat) (h2 : n2 = Ms.length) (hM : Ms.length ≤ 20) : ∀ l (c e : BitVec 64) (d s m b : Int) (g : Bool) (x j : Nat), mk l j = some (.cells (Ms.flatMap mc) false true) →
      callFn SP 12 8 [.agg [u64 c, u64 e, .int .i64 d, .int .i64 s, .int .i64 m, .int .i64 b, .bool g, .slice none 0 x, mvA M.length j n2]] (mk l :: ro M) = some (.tuple [.str [], .int .i64 4], [], mk l :: ro M) := by
  intro l c e d s m b g x j h
  subst h2
  exact put_bad (mk l :: ro M) ⟨c, e, d, s, m, b, g, [], Ms⟩ _ _ (rec_topM (M := ro M) (R := ⟨c, e, d, s, m, b, g, [], Ms⟩) rfl h hM (by rw [ro_length]) rfl rfl) (by simp) hM (.inl rfl)

theorem put_bS (M : Mem) (S : List Int) (n1 : Nat) (h1 : n1 = S.length) (hS : S.length ≤ 30) : ∀ l (c e : BitVec 64) (d s m b : Int) (g : Bool) (y i : Nat), mk l i = some (.cells (S.map (AV.int .i64)) false true) →
      callFn SP 12 8 [.agg [u64 c, u64 e, .int .i64 d, .int .i64 s, .int .i64 m, .int .i64 b, .bool g, svA M.length i n1, .slice none 0 y]] (mk l :: ro M) = some (.tuple [.str [], .int .i64 4], [], mk l :: ro M) := by
  intro l c e d s m b g y i h
  subst h1
  exact put_bad (mk l :: ro M) ⟨c, e, d, s, m, b, g, S, []⟩ _ _ (rec_topS (M := ro M) (R := ⟨c, e, d, s, m, b, g, S, []⟩) rfl h hS (by rw [ro_length]) rfl rfl) hS (by simp) (.inr rfl)


set_option maxHeartbeats 16000000 in
theorem apart_N (M : Mem) (hw : ∀ l, callFn SP 12 10 [] (mk l :: ro M) = some (.bool true, [], mk l :: ro M)) (r : Rec) (sv dv : AV) (seats : List Int) (ds : List Dk) (by_ n : Int) (hn : by_ % 8 = n)
    (hs : WS M (AV.int .i64) sv seats) (hd : WM M 4 dc dv ds) (hS : seats = []) (hM : ds = []) : callFn SP 13 5 [recV r sv dv, .int .i64 by_] M = some (.bool true, [], M) := by
  have hrec := fun l => records_ev 11 (mk l :: ro M) r sv dv seats ds (hs.ro.cons _) (hd.ro.cons _)
  have hRs : (recOf r seats ds).seats.length ≤ 30 := by simp [recOf]; omega
  have hRm : (recOf r seats ds).mems.length ≤ 20 := by simp [recOf]; omega
  have hS2 :  (recOf r seats ds).seats = [] := by simp [recOf, hS]
  have hM2 :  (recOf r seats ds).mems = [] := by simp [recOf, hM]
  generalize recOf r seats ds = R at hrec hRs hRm hS2 hM2
  have h7 := and_7 by_
  rw [hn] at h7
  rw [call_fn (f := 5) (by rfl) (by simp)]
  obtain ⟨count, epoch, data, slots, mark, built, growing, seats0, mems0⟩ := r
  obtain ⟨c, e, d, s, m, b, g, S, Ms⟩ := R
  simp only at hRs hRm hS2 hM2
  simp only [recV, rcells, sV, mV, hsN, outC, if_pos hS2, if_pos hM2] at hrec
  have hml : (Ms.flatMap mc).length = 3 * Ms.length := by rw [flat_len mc_len]; omega
  have hn8 : 0 ≤ n ∧ n < 8 := by omega
  have hcase : n = 0 ∨ n = 1 ∨ n = 2 ∨ n = 3 ∨ n = 4 ∨ n = 5 ∨ n = 6 ∨ n = 7 := by omega
  subst hS2
  subst hM2
  rcases hcase with rfl | rfl | rfl | rfl | rfl | rfl | rfl | rfl
  · have hA := put_bN M
    simp (disch := first | omega | (simp; done) | (simp; omega)) [recV, rcells, hrec, hw, ro_length, hml, h7, hA]
  · have hA := put_bN M
    simp (disch := first | omega | (simp; done) | (simp; omega)) [recV, rcells, hrec, hw, ro_length, hml, h7, hA]
  · have hx : abin .xor (.int .i64 b) (.int .i64 1) = some (.int .i64 (xi 1 b)) := rfl
    have hA := put_bN M
    simp (disch := first | omega | (simp; done) | (simp; omega)) [recV, rcells, hrec, hw, ro_length, hml, h7, hA, hx]
  · have hx : abin .xor (.int .i64 m) (.int .i64 1) = some (.int .i64 (xi 1 m)) := rfl
    have hA := put_bN M
    simp (disch := first | omega | (simp; done) | (simp; omega)) [recV, rcells, hrec, hw, ro_length, hml, h7, hA, hx]
  · have hA := put_bN M
    simp (disch := first | omega | (simp; done) | (simp; omega)) [recV, rcells, hrec, hw, ro_length, hml, h7, hA]
  · have hA := put_bN M
    simp (disch := first | omega | (simp; done) | (simp; omega)) [recV, rcells, hrec, hw, ro_length, hml, h7, hA]
  · have hA := put_bN M
    simp (disch := first | omega | (simp; done) | (simp; omega)) [recV, rcells, hrec, hw, ro_length, hml, h7, hA]
  · have hA := put_bN M
    simp (disch := first | omega | (simp; done) | (simp; omega)) [recV, rcells, hrec, hw, ro_length, hml, h7, hA]

set_option maxHeartbeats 16000000 in
theorem apart_M (M : Mem) (hw : ∀ l, callFn SP 12 10 [] (mk l :: ro M) = some (.bool true, [], mk l :: ro M)) (r : Rec) (sv dv : AV) (seats : List Int) (ds : List Dk) (by_ n : Int) (hn : by_ % 8 = n)
    (hs : WS M (AV.int .i64) sv seats) (hd : WM M 4 dc dv ds) (hS : seats = []) (hM : ¬ ds = []) : callFn SP 13 5 [recV r sv dv, .int .i64 by_] M = some (.bool true, [], M) := by
  have hrec := fun l => records_ev 11 (mk l :: ro M) r sv dv seats ds (hs.ro.cons _) (hd.ro.cons _)
  have hRs : (recOf r seats ds).seats.length ≤ 30 := by simp [recOf]; omega
  have hRm : (recOf r seats ds).mems.length ≤ 20 := by simp [recOf]; omega
  have hS2 :  (recOf r seats ds).seats = [] := by simp [recOf, hS]
  have hM2 : ¬ (recOf r seats ds).mems = [] := by simp [recOf, hM]
  generalize recOf r seats ds = R at hrec hRs hRm hS2 hM2
  have h7 := and_7 by_
  rw [hn] at h7
  rw [call_fn (f := 5) (by rfl) (by simp)]
  obtain ⟨count, epoch, data, slots, mark, built, growing, seats0, mems0⟩ := r
  obtain ⟨c, e, d, s, m, b, g, S, Ms⟩ := R
  simp only at hRs hRm hS2 hM2
  simp only [recV, rcells, sV, mV, hsN, outC, if_pos hS2, if_neg hM2] at hrec
  have hml : (Ms.flatMap mc).length = 3 * Ms.length := by rw [flat_len mc_len]; omega
  have hn8 : 0 ≤ n ∧ n < 8 := by omega
  have hcase : n = 0 ∨ n = 1 ∨ n = 2 ∨ n = 3 ∨ n = 4 ∨ n = 5 ∨ n = 6 ∨ n = 7 := by omega
  subst hS2
  rcases hcase with rfl | rfl | rfl | rfl | rfl | rfl | rfl | rfl
  · have hA := put_bM M Ms Ms.length rfl hRm
    generalize Ms.flatMap mc = FF at *
    simp (disch := first | omega | (simp; done) | (simp; omega)) [recV, rcells, hrec, hw, ro_length, hml, h7, hA]
  · have hA := put_bM M Ms Ms.length rfl hRm
    generalize Ms.flatMap mc = FF at *
    simp (disch := first | omega | (simp; done) | (simp; omega)) [recV, rcells, hrec, hw, ro_length, hml, h7, hA]
  · have hx : abin .xor (.int .i64 b) (.int .i64 1) = some (.int .i64 (xi 1 b)) := rfl
    have hA := put_bM M Ms Ms.length rfl hRm
    generalize Ms.flatMap mc = FF at *
    simp (disch := first | omega | (simp; done) | (simp; omega)) [recV, rcells, hrec, hw, ro_length, hml, h7, hA, hx]
  · have hx : abin .xor (.int .i64 m) (.int .i64 1) = some (.int .i64 (xi 1 m)) := rfl
    have hA := put_bM M Ms Ms.length rfl hRm
    generalize Ms.flatMap mc = FF at *
    simp (disch := first | omega | (simp; done) | (simp; omega)) [recV, rcells, hrec, hw, ro_length, hml, h7, hA, hx]
  · have hA := put_bM M Ms Ms.length rfl hRm
    generalize Ms.flatMap mc = FF at *
    simp (disch := first | omega | (simp; done) | (simp; omega)) [recV, rcells, hrec, hw, ro_length, hml, h7, hA]
  · obtain ⟨fr, mm, rfl⟩ : ∃ fr mm, Ms = fr ++ [mm] := ⟨Ms.dropLast, Ms.getLast hM2, (List.dropLast_concat_getLast hM2).symm⟩
    have hRm' : (fr ++ [{ mm with st := xi 2 mm.st }]).length ≤ 20 := by simpa using hRm
    have hfr : fr.length ≤ 19 := by simp at hRm; omega
    have hwr : IntKind.wrap .i64 (fr.length : Int) = fr.length := IntWalk.i64_in _ (by omega)
    have hx : abin .xor (.int .i64 mm.st) (.int .i64 2) = some (.int .i64 (xi 2 mm.st)) := rfl
    have hfl : (fr.flatMap mc).length = fr.length * 3 := flat_len mc_len fr
    have hlf : ((fr ++ [mm]).flatMap mc).length = 3 * (fr.length + 1) := by rw [flat_len mc_len, List.length_append]; simp; omega
    have hg1 : ((fr ++ [mm]).flatMap mc)[fr.length * 3]? = some (.int .i64 mm.st) := by
      rw [List.flatMap_append, List.getElem?_append_right (by rw [hfl]; exact Nat.le_refl _), hfl, Nat.sub_self]; rfl
    have hst : ((fr ++ [mm]).flatMap mc).set (fr.length * 3) (.int .i64 (xi 2 mm.st)) = (fr ++ [{ mm with st := xi 2 mm.st }]).flatMap mc := by
      rw [List.flatMap_append, List.flatMap_append, List.set_append_right _ _ (by rw [hfl]; exact Nat.le_refl _), hfl, Nat.sub_self]; rfl
    have hA := put_bM M (fr ++ [mm]) (fr.length + 1) (by simp) hRm
    have hC := put_bM M (fr ++ [{ mm with st := xi 2 mm.st }]) (fr.length + 1) (by simp) hRm'
    generalize (fr ++ [{ mm with st := xi 2 mm.st }]).flatMap mc = FF' at *; generalize (fr ++ [mm]).flatMap mc = FF at *; have hg2 : ∀ h : fr.length * 3 < FF.length, FF[fr.length * 3]'h = .int .i64 mm.st := fun h => by { rw [List.getElem?_eq_getElem h] at hg1; exact Option.some.inj hg1 }
    simp (disch := first | omega | (simp; done) | (simp; omega)) [recV, rcells, hrec, hw, ro_length, hml, h7, hA, hC, hx, hg1, hg2, hst, hwr, hlf, if_pos]
  · rcases Ms with _ | ⟨mm, rs⟩
    · exact absurd rfl hM2
    · have hRm' : ({ mm with log := mm.top } :: rs).length ≤ 20 := by simpa using hRm
      have hfc : ∀ x : Mb, (x :: rs).flatMap mc = [.int .i64 x.st, .str x.top, .str x.log] ++ rs.flatMap mc := fun x => rfl
      have hfl : (rs.flatMap mc).length = 3 * rs.length := by rw [flat_len mc_len]; omega
      have hsz : (3 * rs.length + 1 + 1 + 1 = 3 * (rs.length + 1)) = True := eq_true (by omega)
      have hA := put_bM M (mm :: rs) (rs.length + 1) (by simp) hRm
      have hC := put_bM M ({ mm with log := mm.top } :: rs) (rs.length + 1) (by simp) hRm'
      simp only [hfc] at *; generalize rs.flatMap mc = FF at *
      simp (disch := first | omega | (simp; done) | (simp; omega)) [recV, rcells, hrec, hw, ro_length, hml, h7, hA, hC, hfl, hsz]
  · have hA := put_bM M Ms Ms.length rfl hRm
    generalize Ms.flatMap mc = FF at *
    simp (disch := first | omega | (simp; done) | (simp; omega)) [recV, rcells, hrec, hw, ro_length, hml, h7, hA]

set_option maxHeartbeats 16000000 in
theorem apart_S (M : Mem) (hw : ∀ l, callFn SP 12 10 [] (mk l :: ro M) = some (.bool true, [], mk l :: ro M)) (r : Rec) (sv dv : AV) (seats : List Int) (ds : List Dk) (by_ n : Int) (hn : by_ % 8 = n)
    (hs : WS M (AV.int .i64) sv seats) (hd : WM M 4 dc dv ds) (hS : ¬ seats = []) (hM : ds = []) : callFn SP 13 5 [recV r sv dv, .int .i64 by_] M = some (.bool true, [], M) := by
  have hrec := fun l => records_ev 11 (mk l :: ro M) r sv dv seats ds (hs.ro.cons _) (hd.ro.cons _)
  have hRs : (recOf r seats ds).seats.length ≤ 30 := by simp [recOf]; omega
  have hRm : (recOf r seats ds).mems.length ≤ 20 := by simp [recOf]; omega
  have hS2 : ¬ (recOf r seats ds).seats = [] := by simp [recOf, hS]
  have hM2 :  (recOf r seats ds).mems = [] := by simp [recOf, hM]
  generalize recOf r seats ds = R at hrec hRs hRm hS2 hM2
  have h7 := and_7 by_
  rw [hn] at h7
  rw [call_fn (f := 5) (by rfl) (by simp)]
  obtain ⟨count, epoch, data, slots, mark, built, growing, seats0, mems0⟩ := r
  obtain ⟨c, e, d, s, m, b, g, S, Ms⟩ := R
  simp only at hRs hRm hS2 hM2
  simp only [recV, rcells, sV, mV, hsN, outC, if_neg hS2, if_pos hM2] at hrec
  have hml : (Ms.flatMap mc).length = 3 * Ms.length := by rw [flat_len mc_len]; omega
  have hn8 : 0 ≤ n ∧ n < 8 := by omega
  have hcase : n = 0 ∨ n = 1 ∨ n = 2 ∨ n = 3 ∨ n = 4 ∨ n = 5 ∨ n = 6 ∨ n = 7 := by omega
  subst hM2
  rcases hcase with rfl | rfl | rfl | rfl | rfl | rfl | rfl | rfl
  · have hA := put_bS M S S.length rfl hRs
    simp (disch := first | omega | (simp; done) | (simp; omega)) [recV, rcells, hrec, hw, ro_length, hml, h7, hA]
  · have hA := put_bS M S S.length rfl hRs
    simp (disch := first | omega | (simp; done) | (simp; omega)) [recV, rcells, hrec, hw, ro_length, hml, h7, hA]
  · have hx : abin .xor (.int .i64 b) (.int .i64 1) = some (.int .i64 (xi 1 b)) := rfl
    have hA := put_bS M S S.length rfl hRs
    simp (disch := first | omega | (simp; done) | (simp; omega)) [recV, rcells, hrec, hw, ro_length, hml, h7, hA, hx]
  · have hx : abin .xor (.int .i64 m) (.int .i64 1) = some (.int .i64 (xi 1 m)) := rfl
    have hA := put_bS M S S.length rfl hRs
    simp (disch := first | omega | (simp; done) | (simp; omega)) [recV, rcells, hrec, hw, ro_length, hml, h7, hA, hx]
  · rcases S with _ | ⟨x, _ | ⟨y, S0⟩⟩
    · exact absurd rfl hS2
    · have hA := put_bS M [x] 1 rfl hRs
      simp (disch := first | omega | (simp; done) | (simp; omega)) [recV, rcells, hrec, hw, ro_length, hml, h7, hA]
    · have hRs' : (y :: x :: S0).length ≤ 30 := by simpa using hRs
      have hlt : (1 < (S0.length : Int) + 1 + 1) = True := eq_true (by omega)
      have hlz : (0 < (S0.length : Int) + 1 + 1) = True := eq_true (by omega)
      have hA := put_bS M (x :: y :: S0) (S0.length + 1 + 1) (by simp) hRs
      have hC := put_bS M (y :: x :: S0) (S0.length + 1 + 1) (by simp) hRs'
      simp (disch := first | omega | (simp; done) | (simp; omega)) [recV, rcells, hrec, hw, ro_length, hml, h7, hA, hC, hlt, hlz]
  · have hA := put_bS M S S.length rfl hRs
    simp (disch := first | omega | (simp; done) | (simp; omega)) [recV, rcells, hrec, hw, ro_length, hml, h7, hA]
  · have hA := put_bS M S S.length rfl hRs
    simp (disch := first | omega | (simp; done) | (simp; omega)) [recV, rcells, hrec, hw, ro_length, hml, h7, hA]
  · have hA := put_bS M S S.length rfl hRs
    simp (disch := first | omega | (simp; done) | (simp; omega)) [recV, rcells, hrec, hw, ro_length, hml, h7, hA]

theorem apart_core (M : Mem) (hw : ∀ l, callFn SP 12 10 [] (mk l :: ro M) = some (.bool true, [], mk l :: ro M)) (r : Rec) (sv dv : AV) (seats : List Int) (ds : List Dk) (by_ : Int)
    (hs : WS M (AV.int .i64) sv seats) (hd : WM M 4 dc dv ds) : callFn SP 13 5 [recV r sv dv, .int .i64 by_] M = some (.bool true, [], M) := by
  by_cases hS : seats = []
  · by_cases hM : ds = []
    · exact apart_N M hw r sv dv seats ds by_ _ rfl hs hd hS hM
    · exact apart_M M hw r sv dv seats ds by_ _ rfl hs hd hS hM
  · by_cases hM : ds = []
    · exact apart_S M hw r sv dv seats ds by_ _ rfl hs hd hS hM
    · exact apart_main M hw r sv dv seats ds by_ _ rfl hs hd hS hM

theorem ev_SuperApart (s : Scope) (args : List AV) (h : ArgsShp s [rawTy, .int .i64] args) : ∃ k M', callFn SP k 5 args [s, mk []] = some (.bool true, [], M') := by
  obtain ⟨v, vs, rfl, hv, h⟩ := h
  obtain ⟨b, vs, rfl, hb, h⟩ := h
  have h0 : vs = [] := h
  subst h0
  obtain ⟨r, sv, dv, seats, ds, rfl, hs, hd, hsl, hdl⟩ := raw_shp (mk []) hv
  obtain ⟨by_, rfl, hby⟩ := ArgShp_i64 hb
  exact ⟨13, [s, mk []], apart_core [s, mk []] (fun l => wakes_ev (mk l) (roScope s) (roScope (mk []))) r sv dv seats ds by_ hs hd⟩

end Go.Proofs.Ytaennaoaoahjmaa
