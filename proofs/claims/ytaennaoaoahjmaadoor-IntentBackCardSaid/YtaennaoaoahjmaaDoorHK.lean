/-
  The log's law IntentLimits, evaluated.
-/
import Derived.Test.YtaennaoaoahjmaaDoorHI
set_option maxRecDepth 100000
set_option linter.unusedSimpArgs false
set_option linter.unusedVariables false
namespace Go.Proofs.YtaennaoaoahjmaaDoor
open Go.Det Go.Det.S

/-- The write that the law fills in, and the empty one. -/
def wC : Wr := ⟨100, [99]⟩
def wZ : Wr := ⟨0, []⟩
def wl (n i : Nat) : List Wr := List.replicate i wC ++ List.replicate (n - i) wZ
theorem wl_len (n i : Nat) (h : i ≤ n) : (wl n i).length = n := by simp [wl]; omega
theorem wl_cells (n i : Nat) (h : i < n) : ((wl n i).flatMap wc).take (i * 2) ++ [.int .i64 100, .str [99]] ++ ((wl n i).flatMap wc).drop (i * 2 + 2) = (wl n (i + 1)).flatMap wc := by
  have e1 : wl n i = List.replicate i wC ++ wZ :: List.replicate (n - (i + 1)) wZ := by
    unfold wl
    rw [show n - i = (n - (i + 1)) + 1 by omega, List.replicate_succ]
  have e2 : wl n (i + 1) = List.replicate i wC ++ wC :: List.replicate (n - (i + 1)) wZ := by
    unfold wl
    rw [List.replicate_succ', List.append_assoc]; rfl
  have hl : ((List.replicate i wC).flatMap wc).length = i * 2 := by rw [flat_len wc_len, List.length_replicate]
  rw [e1, e2, List.flatMap_append, List.flatMap_append, List.flatMap_cons, List.flatMap_cons, List.take_append_of_le_length (by omega), List.take_of_length_le (by omega), List.append_assoc]
  congr 1
  rw [List.drop_append, List.drop_of_length_le (by omega), hl, List.nil_append, show i * 2 + 2 - i * 2 = 2 by omega]
  rfl

theorem l5 (C : Det.Calls) (M : Mem) (b c : Int) (N : Nat) (hN : N < 110) (j : Nat) : ∀ (i n : Nat), i + j = N → j < n →
    fgt a5_0 (rnd0 (some (e5_0 (.int .i64 N) (.int .i64 b) (.int .i64 c) (.slice (some ⟨M.length, 8004, 2 * N, 0⟩) N 2) (.int .i64 N) (.int .i64 i), mk [(8004, .cells ((wl N i).flatMap wc) true true)] :: M)) k5_0 C s5_b0 n) =
      some (.exit 0, x5_0 (.int .i64 N) (.int .i64 b) (.int .i64 c) (.slice (some ⟨M.length, 8004, 2 * N, 0⟩) N 2), mk [(8004, .cells ((wl N N).flatMap wc) true true)] :: M) := by
  induction j with
  | zero =>
    intro i n h hn
    obtain rfl : i = N := by omega
    rw [rnd0_some]
    conv => lhs; arg 2; arg 1; rw [s5_b0]
    simp
  | succ j ih0 =>
    intro i n h hn
    obtain ⟨n, rfl⟩ : ∃ m, n = m + 1 := ⟨n - 1, by omega⟩
    have ih := ih0 (i + 1) n (by omega) (by omega)
    clear ih0
    have hw := wl_cells N i (by omega)
    have hml : ((wl N i).flatMap wc).length = 2 * N := by rw [flat_len wc_len, wl_len _ _ (by omega)]; omega
    rw [← hw] at ih
    generalize (wl N N).flatMap wc = FN at *
    generalize (wl N i).flatMap wc = FF at *
    have hlt : (i : Int) < N := by omega
    have wi : IntKind.wrap .i64 ((i : Int) + 1) = (i : Int) + 1 := IntWalk.i64_in _ (by omega)
    have hle : i * 2 + 2 ≤ FF.length := by omega
    have hle2 : i * 2 + 2 ≤ 2 * N := by omega
    rw [rnd0_some]
    conv => lhs; arg 2; arg 1; rw [s5_b0]
    simpa [hlt, wi, hml, hle, hle2] using ih

theorem pgo_rep : ∀ n, pgo (List.replicate n wC) = none
  | 0 => rfl
  | n + 1 => by
    rw [List.replicate_succ]
    show (if mayE wC = 0 then pgo (List.replicate n wC) else some (mayE wC)) = none
    rw [show mayE wC = 0 from rfl, if_pos rfl]
    exact pgo_rep n

theorem putE_rep (n : Nat) : putE (List.replicate n wC) = if 96 ≤ n then 10 else 0 := by
  unfold putE
  rw [List.length_replicate, pgo_rep]

theorem bytes_rep (n : Nat) : bytesOf (List.replicate n (byteAV 0)) = some (List.replicate n 0) := by
  rw [show List.replicate n (byteAV 0) = (List.replicate n (0 : UInt8)).map byteAV by rw [List.map_replicate]]
  exact bytesOf_map _

/-- What Put comes to, in a law's scope. -/
theorem put_in (k : Nat) (M : Mem) (hG : Gl kv v0 2 3 M) (W : List Wr) (hW : W.length ≤ 120) : ∀ L i, mk L i = some (.cells (W.flatMap wc) false true) →
    callFn SP (k + 11) 16 [.slice (some ⟨M.length, i, 2 * W.length, 0⟩) W.length 2] (mk L :: ro M) = some ((putOut (M.length + 1) W).1, (putOut (M.length + 1) W).2, mk L :: ro M) := by
  intro L i hL
  have hml : (W.flatMap wc).length = 2 * W.length := by rw [flat_len wc_len]; omega
  have := put_ev k (mk L :: ro M) (hG.ro.cons _) _ W (WM.top (rw_ := false) (fl := true) hL (d := M.length) (by rw [ro_length]) hml.symm rfl) (by omega)
  simpa [ro_length] using this

theorem un_wc (l : List Wr) : AV.unders 0 (l.flatMap wc) = true := unders_iff.2 fun v hv => by
  obtain ⟨w, _, hw⟩ := List.mem_flatMap.1 hv
  simp only [wc, List.mem_cons, List.not_mem_nil, or_false] at hw
  rcases hw with rfl | rfl <;> rfl

theorem rep_wZ (n : Nat) : rep n [.int .i64 0, .str []] = (wl n 0).flatMap wc := by
  have e : wl n 0 = List.replicate n wZ := by simp [wl]
  rw [e]
  apply List.ext_getElem?
  intro i
  by_cases hi : i < n * 2
  · rw [rep_get (by simpa using hi)]
    have h2 : i / 2 < n := by omega
    have := flat_cell wc_len [] (List.replicate n wZ) (i / 2) (i % 2) (by rw [List.length_replicate]; exact h2) (Nat.mod_lt _ (by omega))
    rw [List.append_nil, show i / 2 * 2 + i % 2 = i by omega] at this
    rw [this]
    have hz : nth (List.replicate n wZ) (i / 2) = wZ := by
      have := getElem?_nth (List.replicate n wZ) (i / 2) (by rw [List.length_replicate]; exact h2)
      rw [List.getElem?_replicate, if_pos h2] at this
      exact (Option.some.inj this).symm
    rw [hz]
    rfl
  · rw [List.getElem?_eq_none (by rw [rep_length]; simp; omega), List.getElem?_eq_none (by rw [flat_len wc_len, List.length_replicate]; omega)]

theorem putE_one (a : Int) (t : List UInt8) : putE [⟨a, t⟩] = mayE ⟨a, t⟩ := by
  unfold putE
  rw [if_neg (by simp)]
  show (match (if mayE ⟨a, t⟩ = 0 then none else some (mayE ⟨a, t⟩)) with | some e => e | none => 0) = _
  by_cases h : mayE ⟨a, t⟩ = 0
  · rw [if_pos h, h]
  · rw [if_neg h]

set_option maxHeartbeats 4000000 in
theorem limits_core (M : Mem) (hG : Gl kv v0 2 3 M) (a b c : Int) : callFn SP 13 5 [.int .i64 a, .int .i64 b, .int .i64 c] M = some (.bool true, [], M) := by
  have hw := fun L => wakes_e 0 (mk L :: ro M) (hG.ro.cons _)
  obtain ⟨n, hn, hn2⟩ : ∃ n : Nat, (max 0 a).tmod 110 = n ∧ n < 110 := ⟨((max 0 a).tmod 110).toNat, by rw [Int.tmod_eq_emod_of_nonneg (by omega)]; omega, by rw [Int.tmod_eq_emod_of_nonneg (by omega)]; omega⟩
  obtain ⟨m, hm, hm2⟩ : ∃ m : Nat, (max 0 b).tmod 2100 = m ∧ m < 2100 := ⟨((max 0 b).tmod 2100).toNat, by rw [Int.tmod_eq_emod_of_nonneg (by omega)]; omega, by rw [Int.tmod_eq_emod_of_nonneg (by omega)]; omega⟩
  have hlp := l5 (callFn SP 12) M m c n hn2 n 0 (n + 1) (by omega) (by omega)
  have hp1 := put_in 1 M hG (wl n n) (by rw [wl_len _ _ (Nat.le_refl _)]; omega)
  have hp2 := put_in 1 M hG [⟨120, List.replicate m 0⟩] (by simp)
  have hp3 := put_in 1 M hG [⟨c, []⟩] (by simp)
  have e1 : putE (wl n n) = if 96 ≤ n then 10 else 0 := by
    rw [← putE_rep]; simp [wl]
  have e2 : putE [⟨120, List.replicate m 0⟩] = if 2032 < m then 5 else 0 := by
    rw [putE_one]
    unfold mayE
    rw [if_neg (by simp), List.length_replicate]
  have e3 : putE [⟨c, []⟩] = if c < 100 ∨ 140 ≤ c then 2 else 0 := by
    rw [putE_one]
    unfold mayE
    rw [if_neg (show ¬ 2032 < ([] : List UInt8).length by simp)]
  have hc1 : (putC (wl n n)).length = n + 1 := by simp [putC, wl_len]
  have hwl : (wl n n).length = n := wl_len _ _ (Nat.le_refl _)
  have hf0 := rep_wZ n
  have hu0 := un_wc (wl n 0)
  have hl0 : ((wl n 0).flatMap wc).length = 2 * n := by rw [flat_len wc_len, wl_len _ _ (by omega)]; omega
  have hb := bytes_rep m
  have hlm : (List.replicate m (byteAV 0)).length = m := List.length_replicate
  have hum := unders_rep m 0 (byteAV 0) rfl
  have g1 : (0 : Int) ≤ n ∧ (n : Int) ≤ 35184372088832 ∧ (n : Int) * 24 ≤ 35184372088832 := by omega
  have g2 : (0 : Int) ≤ m ∧ (m : Int) ≤ 35184372088832 := by omega
  have hmm : (List.replicate m (0 : UInt8)).length = m := List.length_replicate
  have hwc2 : ([⟨120, List.replicate m 0⟩] : List Wr).flatMap wc = [.int .i64 120, .str (List.replicate m 0)] := rfl
  have hwc3 : ([⟨c, []⟩] : List Wr).flatMap wc = [.int .i64 c, .str []] := rfl
  rw [hwc2] at hp2
  rw [hwc3] at hp3
  rw [hwl] at hp1
  simp only [putOut, e1, e2, e3] at hp1 hp2 hp3
  have hm1 : ((putC (wl n n)).map AV.str).length = n + 1 := by rw [List.length_map, hc1]
  have hm2' : ((putC [⟨120, List.replicate m 0⟩]).map AV.str).length = (putC [⟨120, List.replicate m 0⟩]).length := List.length_map _
  have hm3 : ((putC [⟨c, []⟩]).map AV.str).length = (putC [⟨c, []⟩]).length := List.length_map _
  simp only [oV, oC, hc1, List.length_cons, List.length_nil, Nat.zero_add, Nat.mul_one] at hp1 hp2 hp3
  generalize dgC (wl n n) = D1 at *
  generalize dgC [⟨120, List.replicate m 0⟩] = D2 at *
  generalize dgC [⟨c, []⟩] = D3 at *
  generalize (putC (wl n n)).map AV.str = C1 at *
  generalize (putC [⟨120, List.replicate m 0⟩]).map AV.str = C2 at *
  generalize (putC [⟨c, []⟩]).map AV.str = C3 at *
  generalize (putC [⟨120, List.replicate m 0⟩]).length = L2 at *
  generalize (putC [⟨c, []⟩]).length = L3 at *
  generalize (wl n n).flatMap wc = FN at *
  generalize List.replicate m (0 : UInt8) = Z at *
  generalize hBZ : List.replicate m (byteAV 0) = BZ at *
  rw [call_fn (f := 5) (by rfl) (by simp)]
  simp [hn, hm, hf0, hu0, hl0, g1]
  rw [ev_loop (n+1) (by simp) hlp (by omega)]
  have hbt : List.take m BZ = BZ := List.take_of_length_le (by omega)
  have hr1 : rep 1 [AV.int .i64 0, AV.str []] = [AV.int .i64 0, AV.str []] := rfl
  clear hlp e1 e2 e3 hf0 hu0 hl0 hG hn hm
  have w1 : IntKind.wrap .i64 ((n : Int) + 1) = (n : Int) + 1 := IntWalk.i64_in _ (by omega)
  have w2 : ((n + 1 : Nat) : Int) = (n : Int) + 1 := by omega
  by_cases ha : 96 ≤ n
  · have ha1 : ¬ (n : Int) < 96 := by omega
    simp only [if_pos ha, show ¬ (10 : Int) = 0 by decide, if_false] at hp1
    by_cases hB : 2032 < m
    · have hB1 : ¬ (m : Int) ≤ 2032 := by omega
      simp only [if_pos hB, show ¬ (5 : Int) = 0 by decide, if_false] at hp2
      by_cases hC : c < 100 ∨ 140 ≤ c
      · simp only [if_pos hC, show ¬ (2 : Int) = 0 by decide, if_false] at hp3
        by_cases hC' : c < 100
        · have hC1 : ¬ 100 ≤ c := by omega
          simp [hp1, hp2, hp3, hw, g2, hBZ, hbt, hr1, hb, hlm, hum, hmm, hm1, hm2', hm3, w1, w2, ha1, hB1, hC1, ro_length]
        · have hC1 : 100 ≤ c ∧ ¬ c < 140 := by omega
          simp [hp1, hp2, hp3, hw, g2, hBZ, hbt, hr1, hb, hlm, hum, hmm, hm1, hm2', hm3, w1, w2, ha1, hB1, hC1, ro_length]
      · simp only [if_neg hC, if_true] at hp3
        have hC1 : 100 ≤ c ∧ c < 140 := by omega
        simp [hp1, hp2, hp3, hw, g2, hBZ, hbt, hr1, hb, hlm, hum, hmm, hm1, hm2', hm3, w1, w2, ha1, hB1, hC1, ro_length]
    · have hB1 : (m : Int) ≤ 2032 := by omega
      simp only [if_neg hB, if_true] at hp2
      by_cases hC : c < 100 ∨ 140 ≤ c
      · simp only [if_pos hC, show ¬ (2 : Int) = 0 by decide, if_false] at hp3
        by_cases hC' : c < 100
        · have hC1 : ¬ 100 ≤ c := by omega
          simp [hp1, hp2, hp3, hw, g2, hBZ, hbt, hr1, hb, hlm, hum, hmm, hm1, hm2', hm3, w1, w2, ha1, hB1, hC1, ro_length]
        · have hC1 : 100 ≤ c ∧ ¬ c < 140 := by omega
          simp [hp1, hp2, hp3, hw, g2, hBZ, hbt, hr1, hb, hlm, hum, hmm, hm1, hm2', hm3, w1, w2, ha1, hB1, hC1, ro_length]
      · simp only [if_neg hC, if_true] at hp3
        have hC1 : 100 ≤ c ∧ c < 140 := by omega
        simp [hp1, hp2, hp3, hw, g2, hBZ, hbt, hr1, hb, hlm, hum, hmm, hm1, hm2', hm3, w1, w2, ha1, hB1, hC1, ro_length]
  · have ha1 : (n : Int) < 96 := by omega
    simp only [if_neg ha, if_true] at hp1
    by_cases hB : 2032 < m
    · have hB1 : ¬ (m : Int) ≤ 2032 := by omega
      simp only [if_pos hB, show ¬ (5 : Int) = 0 by decide, if_false] at hp2
      by_cases hC : c < 100 ∨ 140 ≤ c
      · simp only [if_pos hC, show ¬ (2 : Int) = 0 by decide, if_false] at hp3
        by_cases hC' : c < 100
        · have hC1 : ¬ 100 ≤ c := by omega
          simp [hp1, hp2, hp3, hw, g2, hBZ, hbt, hr1, hb, hlm, hum, hmm, hm1, hm2', hm3, w1, w2, ha1, hB1, hC1, ro_length]
        · have hC1 : 100 ≤ c ∧ ¬ c < 140 := by omega
          simp [hp1, hp2, hp3, hw, g2, hBZ, hbt, hr1, hb, hlm, hum, hmm, hm1, hm2', hm3, w1, w2, ha1, hB1, hC1, ro_length]
      · simp only [if_neg hC, if_true] at hp3
        have hC1 : 100 ≤ c ∧ c < 140 := by omega
        simp [hp1, hp2, hp3, hw, g2, hBZ, hbt, hr1, hb, hlm, hum, hmm, hm1, hm2', hm3, w1, w2, ha1, hB1, hC1, ro_length]
    · have hB1 : (m : Int) ≤ 2032 := by omega
      simp only [if_neg hB, if_true] at hp2
      by_cases hC : c < 100 ∨ 140 ≤ c
      · simp only [if_pos hC, show ¬ (2 : Int) = 0 by decide, if_false] at hp3
        by_cases hC' : c < 100
        · have hC1 : ¬ 100 ≤ c := by omega
          simp [hp1, hp2, hp3, hw, g2, hBZ, hbt, hr1, hb, hlm, hum, hmm, hm1, hm2', hm3, w1, w2, ha1, hB1, hC1, ro_length]
        · have hC1 : 100 ≤ c ∧ ¬ c < 140 := by omega
          simp [hp1, hp2, hp3, hw, g2, hBZ, hbt, hr1, hb, hlm, hum, hmm, hm1, hm2', hm3, w1, w2, ha1, hB1, hC1, ro_length]
      · simp only [if_neg hC, if_true] at hp3
        have hC1 : 100 ≤ c ∧ c < 140 := by omega
        simp [hp1, hp2, hp3, hw, g2, hBZ, hbt, hr1, hb, hlm, hum, hmm, hm1, hm2', hm3, w1, w2, ha1, hB1, hC1, ro_length]

end Go.Proofs.YtaennaoaoahjmaaDoor
