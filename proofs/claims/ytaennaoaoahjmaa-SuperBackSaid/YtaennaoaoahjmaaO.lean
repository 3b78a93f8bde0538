/-
  The record's law SuperApart: two records in a law's own scope are written and held against each other.
-/
import Derived.Test.YtaennaoaoahjmaaN
import Derived.Test.YtaennaoaoahjmaaK
set_option maxRecDepth 100000
set_option linter.unusedSimpArgs false
set_option linter.unusedVariables false
namespace Go.Proofs.Ytaennaoaoahjmaa
open Go.Det

/-- A slice of seats, of disks, in a scope of depth D. -/
abbrev svA (D i n : Nat) : AV := .slice (some ⟨D, i, n, 0⟩) n 1
abbrev mvA (D i n : Nat) : AV := .slice (some ⟨D, i, 3 * n, 0⟩) n 3

theorem put_at (M : Mem) (S : List Int) (Ms : List Mb) (n1 n2 : Nat) (h1 : n1 = S.length) (h2 : n2 = Ms.length) (hS : S.length ≤ 30) (hM : Ms.length ≤ 20) (c e : BitVec 64) (d s m b : Int) (g : Bool) (T : List UInt8) (E : Int)
    (hT : T = if goodP ⟨c, e, d, s, m, b, g, S, Ms⟩ then putT ⟨c, e, d, s, m, b, g, S, Ms⟩ else []) (hE : E = if goodP ⟨c, e, d, s, m, b, g, S, Ms⟩ then 0 else 4) (i j : Nat) : ∀ l, mk l i = some (.cells (S.map (AV.int .i64)) false true) → mk l j = some (.cells (Ms.flatMap mc) false true) →
      callFn SP 12 8 [.agg [u64 c, u64 e, .int .i64 d, .int .i64 s, .int .i64 m, .int .i64 b, .bool g, svA M.length i n1, mvA M.length j n2]] (mk l :: ro M) = some (.tuple [.str T, .int .i64 E], [], mk l :: ro M) := by
  intro l e1 e2
  subst hT hE h1 h2
  exact put_ev 7 (mk l :: ro M) ⟨c, e, d, s, m, b, g, S, Ms⟩ _ _ (rec_top (M := ro M) (R := ⟨c, e, d, s, m, b, g, S, Ms⟩) e1 e2 hS hM (by rw [ro_length]) (by rw [ro_length]) rfl rfl rfl rfl) hS hM

theorem same_at (M : Mem) (S S' : List Int) (Ms Ms' : List Mb) (n1 n2 n3 n4 : Nat) (h1 : n1 = S.length) (h2 : n2 = Ms.length) (h3 : n3 = S'.length) (h4 : n4 = Ms'.length) (hS : S.length ≤ 30) (hM : Ms.length ≤ 20) (hS' : S'.length ≤ 30) (hM' : Ms'.length ≤ 20) (c e c' e' : BitVec 64) (d s m b d' s' m' b' : Int) (g g' : Bool) (q : Bool)
    (hq : q = decide ((⟨c, e, d, s, m, b, g, S, Ms⟩ : Rec) = ⟨c', e', d', s', m', b', g', S', Ms'⟩)) (i j i' j' : Nat) : ∀ l, mk l i = some (.cells (S.map (AV.int .i64)) false true) → mk l j = some (.cells (Ms.flatMap mc) false true) → mk l i' = some (.cells (S'.map (AV.int .i64)) false true) → mk l j' = some (.cells (Ms'.flatMap mc) false true) →
      callFn SP 12 14 [.agg [u64 c, u64 e, .int .i64 d, .int .i64 s, .int .i64 m, .int .i64 b, .bool g, svA M.length i n1, mvA M.length j n2], .agg [u64 c', u64 e', .int .i64 d', .int .i64 s', .int .i64 m', .int .i64 b', .bool g', svA M.length i' n3, mvA M.length j' n4]] (mk l :: ro M) =
        some (.bool q, [], mk l :: ro M) := by
  intro l e1 e2 e3 e4
  subst hq h1 h2 h3 h4
  exact same_ev 11 (mk l :: ro M) ⟨c, e, d, s, m, b, g, S, Ms⟩ ⟨c', e', d', s', m', b', g', S', Ms'⟩ _ _ _ _ (rec_top (M := ro M) (R := ⟨c, e, d, s, m, b, g, S, Ms⟩) e1 e2 hS hM (by rw [ro_length]) (by rw [ro_length]) rfl rfl rfl rfl)
    (rec_top (M := ro M) (R := ⟨c', e', d', s', m', b', g', S', Ms'⟩) e3 e4 hS' hM' (by rw [ro_length]) (by rw [ro_length]) rfl rfl rfl rfl)

/-- What the law says of two records that are written: the bytes are the same just if the records are. -/
theorem apart_law (a c : Rec) (ha : a.seats.length ≤ 30) (hc : c.seats.length ≤ 30) (ga : goodP a = true) (gc : goodP c = true) : decide (putT a = putT c) = decide (c = a) := by
  by_cases h : c = a
  · simp [h]
  · have : ¬ putT a = putT c := fun hh => h (putT_inj ga gc ha hc hh).symm
    simp [h, this]

theorem and_7 (n : Int) : abin .and (.int .i64 n) (.int .i64 7) = some (.int .i64 (n % 8)) := by
  rw [ab_and]
  exact and_low n 3 (by omega)

set_option maxHeartbeats 16000000 in
theorem apart_main (M : Mem) (hw : ∀ l, callFn SP 12 10 [] (mk l :: ro M) = some (.bool true, [], mk l :: ro M)) (r : Rec) (sv dv : AV) (seats : List Int) (ds : List Dk) (by_ n : Int) (hn : by_ % 8 = n)
    (hs : WS M (AV.int .i64) sv seats) (hd : WM M 4 dc dv ds) (hS : ¬ seats = []) (hM : ¬ ds = []) : callFn SP 13 5 [recV r sv dv, .int .i64 by_] M = some (.bool true, [], M) := by
  have hrec := fun l => records_ev 11 (mk l :: ro M) r sv dv seats ds (hs.ro.cons _) (hd.ro.cons _)
  have hRs : (recOf r seats ds).seats.length ≤ 30 := by simp [recOf]; omega
  have hRm : (recOf r seats ds).mems.length ≤ 20 := by simp [recOf]; omega
  have hS2 : ¬ (recOf r seats ds).seats = [] := by simp [recOf, hS]
  have hM2 : ¬ (recOf r seats ds).mems = [] := by simp [recOf, hM]
  generalize recOf r seats ds = R at hrec hRs hRm hS2 hM2
  have h7 := and_7 by_
  rw [hn] at h7
  rw [call_fn (f := 5) (by rfl) (by simp)]
  obtain ⟨count, epoch, data, slots, mark, built, growing, seats0, mems0⟩ := r
  obtain ⟨c, e, d, s, m, b, g, S, Ms⟩ := R
  simp only at hRs hRm hS2 hM2
  simp only [recV, rcells, sV, mV, hsN, outC, if_neg hS2, if_neg hM2] at hrec
  have hml : (Ms.flatMap mc).length = 3 * Ms.length := by rw [flat_len mc_len]; omega
  have hn8 : 0 ≤ n ∧ n < 8 := by omega
  have hcase : n = 0 ∨ n = 1 ∨ n = 2 ∨ n = 3 ∨ n = 4 ∨ n = 5 ∨ n = 6 ∨ n = 7 := by omega
  have hlaw : ∀ c' e' d' s' m' b' g' S' Ms', S'.length ≤ 30 → goodP ⟨c, e, d, s, m, b, g, S, Ms⟩ = true → goodP ⟨c', e', d', s', m', b', g', S', Ms'⟩ = true →
      decide (putT ⟨c, e, d, s, m, b, g, S, Ms⟩ = putT ⟨c', e', d', s', m', b', g', S', Ms'⟩) = decide ((⟨c', e', d', s', m', b', g', S', Ms'⟩ : Rec) = ⟨c, e, d, s, m, b, g, S, Ms⟩) :=
    fun c' e' d' s' m' b' g' S' Ms' hl ga gc => apart_law _ _ hRs hl ga gc
  rcases hcase with rfl | rfl | rfl | rfl | rfl | rfl | rfl | rfl
  · have hA := put_at M (S) (Ms) (S.length) (Ms.length) (by simp) (by simp) hRs hRm c e d s m b g _ _ rfl rfl
    have hC := put_at M (S) (Ms) (S.length) (Ms.length) (by simp) (by simp) hRs hRm (c + 1#64) e d s m b g _ _ rfl rfl
    have hQ := same_at M (S) (S) (Ms) (Ms) (S.length) (Ms.length) (S.length) (Ms.length) (by simp) (by simp) (by simp) (by simp) hRs hRm hRs hRm (c + 1#64) e c e d s m b d s m b g g _ rfl
    have hL := hlaw (c + 1#64) e d s m b g (S) (Ms) hRs
    cases ga : goodP ⟨c, e, d, s, m, b, g, S, Ms⟩
    · rw [ga] at hA
      generalize Ms.flatMap mc = FF at *
      simp (disch := first | omega | (simp; done) | (simp; omega)) [recV, rcells, hrec, hw, ro_length, hml, h7, hA, hC, hQ]
    · rw [ga] at hA
      cases gc : goodP ⟨(c + 1#64), e, d, s, m, b, g, S, Ms⟩
      · rw [gc] at hC
        generalize Ms.flatMap mc = FF at *
        simp (disch := first | omega | (simp; done) | (simp; omega)) [recV, rcells, hrec, hw, ro_length, hml, h7, hA, hC, hQ]
      · rw [gc] at hC
        have hL := hL ga gc
        generalize decide ((⟨(c + 1#64), e, d, s, m, b, g, S, Ms⟩ : Rec) = ⟨c, e, d, s, m, b, g, S, Ms⟩) = q at hQ hL
        generalize putT ⟨c, e, d, s, m, b, g, S, Ms⟩ = TA at *
        generalize putT ⟨(c + 1#64), e, d, s, m, b, g, S, Ms⟩ = TC at *
        generalize Ms.flatMap mc = FF at *
        simp (disch := first | omega | (simp; done) | (simp; omega)) [recV, rcells, hrec, hw, ro_length, hml, h7, hA, hC, hQ, hL]
  · have hA := put_at M (S) (Ms) (S.length) (Ms.length) (by simp) (by simp) hRs hRm c e d s m b g _ _ rfl rfl
    have hC := put_at M (S) (Ms) (S.length) (Ms.length) (by simp) (by simp) hRs hRm c (e + 1#64) d s m b g _ _ rfl rfl
    have hQ := same_at M (S) (S) (Ms) (Ms) (S.length) (Ms.length) (S.length) (Ms.length) (by simp) (by simp) (by simp) (by simp) hRs hRm hRs hRm c (e + 1#64) c e d s m b d s m b g g _ rfl
    have hL := hlaw c (e + 1#64) d s m b g (S) (Ms) hRs
    cases ga : goodP ⟨c, e, d, s, m, b, g, S, Ms⟩
    · rw [ga] at hA
      generalize Ms.flatMap mc = FF at *
      simp (disch := first | omega | (simp; done) | (simp; omega)) [recV, rcells, hrec, hw, ro_length, hml, h7, hA, hC, hQ]
    · rw [ga] at hA
      cases gc : goodP ⟨c, (e + 1#64), d, s, m, b, g, S, Ms⟩
      · rw [gc] at hC
        generalize Ms.flatMap mc = FF at *
        simp (disch := first | omega | (simp; done) | (simp; omega)) [recV, rcells, hrec, hw, ro_length, hml, h7, hA, hC, hQ]
      · rw [gc] at hC
        have hL := hL ga gc
        generalize decide ((⟨c, (e + 1#64), d, s, m, b, g, S, Ms⟩ : Rec) = ⟨c, e, d, s, m, b, g, S, Ms⟩) = q at hQ hL
        generalize putT ⟨c, e, d, s, m, b, g, S, Ms⟩ = TA at *
        generalize putT ⟨c, (e + 1#64), d, s, m, b, g, S, Ms⟩ = TC at *
        generalize Ms.flatMap mc = FF at *
        simp (disch := first | omega | (simp; done) | (simp; omega)) [recV, rcells, hrec, hw, ro_length, hml, h7, hA, hC, hQ, hL]
  · have hx : abin .xor (.int .i64 b) (.int .i64 1) = some (.int .i64 (xi 1 b)) := rfl
    have hA := put_at M (S) (Ms) (S.length) (Ms.length) (by simp) (by simp) hRs hRm c e d s m b g _ _ rfl rfl
    have hC := put_at M (S) (Ms) (S.length) (Ms.length) (by simp) (by simp) hRs hRm c e d s m (xi 1 b) g _ _ rfl rfl
    have hQ := same_at M (S) (S) (Ms) (Ms) (S.length) (Ms.length) (S.length) (Ms.length) (by simp) (by simp) (by simp) (by simp) hRs hRm hRs hRm c e c e d s m (xi 1 b) d s m b g g _ rfl
    have hL := hlaw c e d s m (xi 1 b) g (S) (Ms) hRs
    cases ga : goodP ⟨c, e, d, s, m, b, g, S, Ms⟩
    · rw [ga] at hA
      generalize Ms.flatMap mc = FF at *
      simp (disch := first | omega | (simp; done) | (simp; omega)) [recV, rcells, hrec, hw, ro_length, hml, h7, hA, hC, hQ, hx]
    · rw [ga] at hA
      cases gc : goodP ⟨c, e, d, s, m, (xi 1 b), g, S, Ms⟩
      · rw [gc] at hC
        generalize Ms.flatMap mc = FF at *
        simp (disch := first | omega | (simp; done) | (simp; omega)) [recV, rcells, hrec, hw, ro_length, hml, h7, hA, hC, hQ, hx]
      · rw [gc] at hC
        have hL := hL ga gc
        generalize decide ((⟨c, e, d, s, m, (xi 1 b), g, S, Ms⟩ : Rec) = ⟨c, e, d, s, m, b, g, S, Ms⟩) = q at hQ hL
        generalize putT ⟨c, e, d, s, m, b, g, S, Ms⟩ = TA at *
        generalize putT ⟨c, e, d, s, m, (xi 1 b), g, S, Ms⟩ = TC at *
        generalize Ms.flatMap mc = FF at *
        simp (disch := first | omega | (simp; done) | (simp; omega)) [recV, rcells, hrec, hw, ro_length, hml, h7, hA, hC, hQ, hx, hL]
  · have hx : abin .xor (.int .i64 m) (.int .i64 1) = some (.int .i64 (xi 1 m)) := rfl
    have hA := put_at M (S) (Ms) (S.length) (Ms.length) (by simp) (by simp) hRs hRm c e d s m b g _ _ rfl rfl
    have hC := put_at M (S) (Ms) (S.length) (Ms.length) (by simp) (by simp) hRs hRm c e d s (xi 1 m) b g _ _ rfl rfl
    have hQ := same_at M (S) (S) (Ms) (Ms) (S.length) (Ms.length) (S.length) (Ms.length) (by simp) (by simp) (by simp) (by simp) hRs hRm hRs hRm c e c e d s (xi 1 m) b d s m b g g _ rfl
    have hL := hlaw c e d s (xi 1 m) b g (S) (Ms) hRs
    cases ga : goodP ⟨c, e, d, s, m, b, g, S, Ms⟩
    · rw [ga] at hA
      generalize Ms.flatMap mc = FF at *
      simp (disch := first | omega | (simp; done) | (simp; omega)) [recV, rcells, hrec, hw, ro_length, hml, h7, hA, hC, hQ, hx]
    · rw [ga] at hA
      cases gc : goodP ⟨c, e, d, s, (xi 1 m), b, g, S, Ms⟩
      · rw [gc] at hC
        generalize Ms.flatMap mc = FF at *
        simp (disch := first | omega | (simp; done) | (simp; omega)) [recV, rcells, hrec, hw, ro_length, hml, h7, hA, hC, hQ, hx]
      · rw [gc] at hC
        have hL := hL ga gc
        generalize decide ((⟨c, e, d, s, (xi 1 m), b, g, S, Ms⟩ : Rec) = ⟨c, e, d, s, m, b, g, S, Ms⟩) = q at hQ hL
        generalize putT ⟨c, e, d, s, m, b, g, S, Ms⟩ = TA at *
        generalize putT ⟨c, e, d, s, (xi 1 m), b, g, S, Ms⟩ = TC at *
        generalize Ms.flatMap mc = FF at *
        simp (disch := first | omega | (simp; done) | (simp; omega)) [recV, rcells, hrec, hw, ro_length, hml, h7, hA, hC, hQ, hx, hL]
  · rcases S with _ | ⟨x, _ | ⟨y, S0⟩⟩
    · exact absurd rfl hS2
    · have hA := put_at M ([x]) (Ms) (1) (Ms.length) (by simp) (by simp) hRs hRm c e d s m b g _ _ rfl rfl
      have hC := put_at M ([x]) (Ms) (1) (Ms.length) (by simp) (by simp) hRs hRm c e d s m b g _ _ rfl rfl
      have hQ := same_at M ([x]) ([x]) (Ms) (Ms) (1) (Ms.length) (1) (Ms.length) (by simp) (by simp) (by simp) (by simp) hRs hRm hRs hRm c e c e d s m b d s m b g g _ rfl
      have hL := hlaw c e d s m b g ([x]) (Ms) hRs
      cases ga : goodP ⟨c, e, d, s, m, b, g, [x], Ms⟩
      · rw [ga] at hA
        generalize Ms.flatMap mc = FF at *
        simp (disch := first | omega | (simp; done) | (simp; omega)) [recV, rcells, hrec, hw, ro_length, hml, h7, hA, hC, hQ]
      · rw [ga] at hA
        rw [ga] at hC
        have hL := hL ga ga
        generalize putT ⟨c, e, d, s, m, b, g, [x], Ms⟩ = TA at *
        generalize Ms.flatMap mc = FF at *
        simp (disch := first | omega | (simp; done) | (simp; omega)) [recV, rcells, hrec, hw, ro_length, hml, h7, hA, hC, hQ, hL]
    · have hRs' : (y :: x :: S0).length ≤ 30 := by simpa using hRs
      have hlt : (1 < (S0.length : Int) + 1 + 1) = True := eq_true (by omega)
      have hlz : (0 < (S0.length : Int) + 1 + 1) = True := eq_true (by omega)
      have hA := put_at M (x :: y :: S0) (Ms) (S0.length + 1 + 1) (Ms.length) (by simp) (by simp) hRs hRm c e d s m b g _ _ rfl rfl
      have hC := put_at M (y :: x :: S0) (Ms) (S0.length + 1 + 1) (Ms.length) (by simp) (by simp) hRs' hRm c e d s m b g _ _ rfl rfl
      have hQ := same_at M (y :: x :: S0) (x :: y :: S0) (Ms) (Ms) (S0.length + 1 + 1) (Ms.length) (S0.length + 1 + 1) (Ms.length) (by simp) (by simp) (by simp) (by simp) hRs' hRm hRs hRm c e c e d s m b d s m b g g _ rfl
      have hL := hlaw c e d s m b g (y :: x :: S0) (Ms) hRs'
      cases ga : goodP ⟨c, e, d, s, m, b, g, x :: y :: S0, Ms⟩
      · rw [ga] at hA
        generalize Ms.flatMap mc = FF at *
        simp (disch := first | omega | (simp; done) | (simp; omega)) [recV, rcells, hrec, hw, ro_length, hml, h7, hlt, hlz, hA, hC, hQ]
      · rw [ga] at hA
        cases gc : goodP ⟨c, e, d, s, m, b, g, y :: x :: S0, Ms⟩
        · rw [gc] at hC
          generalize Ms.flatMap mc = FF at *
          simp (disch := first | omega | (simp; done) | (simp; omega)) [recV, rcells, hrec, hw, ro_length, hml, h7, hlt, hlz, hA, hC, hQ]
        · rw [gc] at hC
          have hL := hL ga gc
          generalize decide ((⟨c, e, d, s, m, b, g, y :: x :: S0, Ms⟩ : Rec) = ⟨c, e, d, s, m, b, g, x :: y :: S0, Ms⟩) = q at hQ hL
          generalize putT ⟨c, e, d, s, m, b, g, x :: y :: S0, Ms⟩ = TA at *
          generalize putT ⟨c, e, d, s, m, b, g, y :: x :: S0, Ms⟩ = TC at *
          generalize Ms.flatMap mc = FF at *
          simp (disch := first | omega | (simp; done) | (simp; omega)) [recV, rcells, hrec, hw, ro_length, hml, h7, hlt, hlz, hA, hC, hQ, hL]
  · obtain ⟨fr, mm, rfl⟩ : ∃ fr mm, Ms = fr ++ [mm] := ⟨Ms.dropLast, Ms.getLast hM2, (List.dropLast_concat_getLast hM2).symm⟩
    have hRm' : (fr ++ [{ mm with st := xi 2 mm.st }]).length ≤ 20 := by simpa using hRm
    have hfr : fr.length ≤ 19 := by simp at hRm; omega
    have hwr : IntKind.wrap .i64 (fr.length : Int) = fr.length := IntWalk.i64_in _ (by omega)
    have hx : abin .xor (.int .i64 mm.st) (.int .i64 2) = some (.int .i64 (xi 2 mm.st)) := rfl
    have hfl : (fr.flatMap mc).length = fr.length * 3 := flat_len mc_len fr
    have hlf : ((fr ++ [mm]).flatMap mc).length = 3 * (fr.length + 1) := by rw [flat_len mc_len, List.length_append]; simp; omega
    have hg1 : ((fr ++ [mm]).flatMap mc)[fr.length * 3]? = some (.int .i64 mm.st) := by
      rw [List.flatMap_append, List.getElem?_append_right (by rw [hfl]; exact Nat.le_refl _), hfl, Nat.sub_self]; rfl
    have hst : ((fr ++ [mm]).flatMap mc).set (fr.length * 3) (.int .i64 (xi 2 mm.st)) = (fr ++ [{ mm with st := xi 2 mm.st }]).flatMap mc := by
      rw [List.flatMap_append, List.flatMap_append, List.set_append_right _ _ (by rw [hfl]; exact Nat.le_refl _), hfl, Nat.sub_self]; rfl
    have hA := put_at M (S) (fr ++ [mm]) (S.length) (fr.length + 1) (by simp) (by simp) hRs hRm c e d s m b g _ _ rfl rfl
    have hC := put_at M (S) (fr ++ [{ mm with st := xi 2 mm.st }]) (S.length) (fr.length + 1) (by simp) (by simp) hRs hRm' c e d s m b g _ _ rfl rfl
    have hQ := same_at M (S) (S) (fr ++ [{ mm with st := xi 2 mm.st }]) (fr ++ [mm]) (S.length) (fr.length + 1) (S.length) (fr.length + 1) (by simp) (by simp) (by simp) (by simp) hRs hRm' hRs hRm c e c e d s m b d s m b g g _ rfl
    have hL := hlaw c e d s m b g (S) (fr ++ [{ mm with st := xi 2 mm.st }]) hRs
    cases ga : goodP ⟨c, e, d, s, m, b, g, S, fr ++ [mm]⟩
    · rw [ga] at hA
      generalize (fr ++ [{ mm with st := xi 2 mm.st }]).flatMap mc = FF' at *; generalize (fr ++ [mm]).flatMap mc = FF at *; have hg2 : ∀ h : fr.length * 3 < FF.length, FF[fr.length * 3]'h = .int .i64 mm.st := fun h => by { rw [List.getElem?_eq_getElem h] at hg1; exact Option.some.inj hg1 }
      simp (disch := first | omega | (simp; done) | (simp; omega)) [recV, rcells, hrec, hw, ro_length, hml, h7, hA, hC, hQ, hx, hg1, hg2, hst, hwr, hlf, if_pos]
    · rw [ga] at hA
      cases gc : goodP ⟨c, e, d, s, m, b, g, S, fr ++ [{ mm with st := xi 2 mm.st }]⟩
      · rw [gc] at hC
        generalize (fr ++ [{ mm with st := xi 2 mm.st }]).flatMap mc = FF' at *; generalize (fr ++ [mm]).flatMap mc = FF at *; have hg2 : ∀ h : fr.length * 3 < FF.length, FF[fr.length * 3]'h = .int .i64 mm.st := fun h => by { rw [List.getElem?_eq_getElem h] at hg1; exact Option.some.inj hg1 }
        simp (disch := first | omega | (simp; done) | (simp; omega)) [recV, rcells, hrec, hw, ro_length, hml, h7, hA, hC, hQ, hx, hg1, hg2, hst, hwr, hlf, if_pos]
      · rw [gc] at hC
        have hL := hL ga gc
        generalize decide ((⟨c, e, d, s, m, b, g, S, fr ++ [{ mm with st := xi 2 mm.st }]⟩ : Rec) = ⟨c, e, d, s, m, b, g, S, fr ++ [mm]⟩) = q at hQ hL
        generalize putT ⟨c, e, d, s, m, b, g, S, fr ++ [mm]⟩ = TA at *
        generalize putT ⟨c, e, d, s, m, b, g, S, fr ++ [{ mm with st := xi 2 mm.st }]⟩ = TC at *
        generalize (fr ++ [{ mm with st := xi 2 mm.st }]).flatMap mc = FF' at *; generalize (fr ++ [mm]).flatMap mc = FF at *; have hg2 : ∀ h : fr.length * 3 < FF.length, FF[fr.length * 3]'h = .int .i64 mm.st := fun h => by { rw [List.getElem?_eq_getElem h] at hg1; exact Option.some.inj hg1 }
        simp (disch := first | omega | (simp; done) | (simp; omega)) [recV, rcells, hrec, hw, ro_length, hml, h7, hA, hC, hQ, hx, hg1, hg2, hst, hwr, hlf, if_pos, hL]
  · rcases Ms with _ | ⟨mm, rs⟩
    · exact absurd rfl hM2
    · have hRm' : ({ mm with log := mm.top } :: rs).length ≤ 20 := by simpa using hRm
      have hfc : ∀ x : Mb, (x :: rs).flatMap mc = [.int .i64 x.st, .str x.top, .str x.log] ++ rs.flatMap mc := fun x => rfl
      have hfl : (rs.flatMap mc).length = 3 * rs.length := by rw [flat_len mc_len]; omega
      have hsz : (3 * rs.length + 1 + 1 + 1 = 3 * (rs.length + 1)) = True := eq_true (by omega)
      have hA := put_at M (S) (mm :: rs) (S.length) (rs.length + 1) (by simp) (by simp) hRs hRm c e d s m b g _ _ rfl rfl
      have hC := put_at M (S) ({ mm with log := mm.top } :: rs) (S.length) (rs.length + 1) (by simp) (by simp) hRs hRm' c e d s m b g _ _ rfl rfl
      have hQ := same_at M (S) (S) ({ mm with log := mm.top } :: rs) (mm :: rs) (S.length) (rs.length + 1) (S.length) (rs.length + 1) (by simp) (by simp) (by simp) (by simp) hRs hRm' hRs hRm c e c e d s m b d s m b g g _ rfl
      have hL := hlaw c e d s m b g (S) ({ mm with log := mm.top } :: rs) hRs
      cases ga : goodP ⟨c, e, d, s, m, b, g, S, mm :: rs⟩
      · rw [ga] at hA
        simp only [hfc] at *; generalize rs.flatMap mc = FF at *
        simp (disch := first | omega | (simp; done) | (simp; omega)) [recV, rcells, hrec, hw, ro_length, hml, h7, hA, hC, hQ, hfl, hsz]
      · rw [ga] at hA
        cases gc : goodP ⟨c, e, d, s, m, b, g, S, { mm with log := mm.top } :: rs⟩
        · rw [gc] at hC
          simp only [hfc] at *; generalize rs.flatMap mc = FF at *
          simp (disch := first | omega | (simp; done) | (simp; omega)) [recV, rcells, hrec, hw, ro_length, hml, h7, hA, hC, hQ, hfl, hsz]
        · rw [gc] at hC
          have hL := hL ga gc
          generalize decide ((⟨c, e, d, s, m, b, g, S, { mm with log := mm.top } :: rs⟩ : Rec) = ⟨c, e, d, s, m, b, g, S, mm :: rs⟩) = q at hQ hL
          generalize putT ⟨c, e, d, s, m, b, g, S, mm :: rs⟩ = TA at *
          generalize putT ⟨c, e, d, s, m, b, g, S, { mm with log := mm.top } :: rs⟩ = TC at *
          simp only [hfc] at *; generalize rs.flatMap mc = FF at *
          simp (disch := first | omega | (simp; done) | (simp; omega)) [recV, rcells, hrec, hw, ro_length, hml, h7, hA, hC, hQ, hfl, hsz, hL]
  · have hA := put_at M (S) (Ms) (S.length) (Ms.length) (by simp) (by simp) hRs hRm c e d s m b g _ _ rfl rfl
    have hC := put_at M (S) (Ms) (S.length) (Ms.length) (by simp) (by simp) hRs hRm c e d s m b g _ _ rfl rfl
    have hQ := same_at M (S) (S) (Ms) (Ms) (S.length) (Ms.length) (S.length) (Ms.length) (by simp) (by simp) (by simp) (by simp) hRs hRm hRs hRm c e c e d s m b d s m b g g _ rfl
    have hL := hlaw c e d s m b g (S) (Ms) hRs
    cases ga : goodP ⟨c, e, d, s, m, b, g, S, Ms⟩
    · rw [ga] at hA
      generalize Ms.flatMap mc = FF at *
      simp (disch := first | omega | (simp; done) | (simp; omega)) [recV, rcells, hrec, hw, ro_length, hml, h7, hA, hC, hQ]
    · rw [ga] at hA
      rw [ga] at hC
      have hL := hL ga ga
      generalize putT ⟨c, e, d, s, m, b, g, S, Ms⟩ = TA at *
      generalize Ms.flatMap mc = FF at *
      simp (disch := first | omega | (simp; done) | (simp; omega)) [recV, rcells, hrec, hw, ro_length, hml, h7, hA, hC, hQ, hL]

end Go.Proofs.Ytaennaoaoahjmaa
