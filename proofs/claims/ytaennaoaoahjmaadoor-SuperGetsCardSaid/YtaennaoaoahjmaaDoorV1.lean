/-
  The record's law: which records are good, as the document says: the loops.
-/
import Derived.Test.YtaennaoaoahjmaaDoorV0
set_option maxRecDepth 100000
set_option linter.unusedSimpArgs false
set_option linter.unusedVariables false
namespace Go.Proofs.YtaennaoaoahjmaaDoor
open Go.Det

set_option maxHeartbeats 16000000 in
theorem l12a (k : Nat) (M : Mem) (a : Rec) (sa ma : AV) (fa : Bool) (ha : IsRec M a sa ma) (N : Nat) (h1 : a.mems.length = N) (j : Nat) : ∀ (i n : Nat) (b : Int), i + j = N → j < n → -1 < b → b ≤ i →
    fgt a57_0 (rnd0 (some (e57_0 (P0 M 0) (.int .i64 b) (.int .i64 i), mk [(0, rCell a sa ma fa)] :: M)) k57_0 (callFn SP (k + 1)) s57_b0 n) =
      r12a M (rCell a sa ma fa) (.int .i64 (dcv a.seats (a.mems.drop i) i b)) (dgo a.seats (a.mems.drop i) i b) := by
  have i1 := WS_ids ha.s
  have i2 := WM_ids ha.m
  have n2 := ha.m.len
  have hNl := ha.hm
  subst h1
  induction j with
  | zero =>
    intro i n b h hn hb1 hb2
    obtain rfl : i = a.mems.length := by omega
    rw [rnd0_some, List.drop_of_length_le (by omega)]
    conv => lhs; arg 2; arg 1; rw [s57_b0]
    simp [P0, rCell, rcells, dgo, r12a, i1, i2, n2]
  | succ j ih0 =>
    intro i n b h hn hb1 hb2
    obtain ⟨n, rfl⟩ : ∃ m, n = m + 1 := ⟨n - 1, by omega⟩
    have hi : i < a.mems.length := by omega
    have hse : ∀ l x, callFn SP (k + 1) 67 [recV a sa ma, .int .i64 x] (mk l :: ro M) = some (.int .i64 (tms x a.seats), [], mk l :: ro M) := fun l x => seated_ev k (mk l :: ro M) a sa ma (ha.ro.cons _) x
    have hs1 := ha.m
    obtain ⟨d, id, z, rw_, fl, r, hvv, hd, hg⟩ := hs1.block (by omega)
    subst hvv
    have sa1 := flat_seg mc_len r a.mems i (by omega)
    have la : i * 3 + 3 ≤ (a.mems.flatMap mc ++ r).length := by rw [List.length_append, flat_len mc_len]; omega
    have hn1 : d ≠ M.length := by omega
    rw [drop_nth a.mems i (by omega)]
    have e1 : mc (nth a.mems i) = [.int .i64 (nth a.mems i).st, .str (nth a.mems i).top, .str (nth a.mems i).log] := rfl
    rw [e1] at sa1
    clear hs1 e1
    have ih1 := ih0 (i + 1) n (b + 1) (by omega) (by omega) (by omega) (by omega)
    have ih2 := ih0 (i + 1) n b (by omega) (by omega) (by omega) (by omega)
    clear ih0
    simp only [recV, rcells] at hse
    have hse := fun l => hse l (i : Int)
    generalize a.mems.drop (i + 1) = rest at *
    generalize a.mems.flatMap mc ++ r = BA at sa1 la hg
    generalize hm : nth a.mems i = m at *
    clear hm
    generalize hR : r12a _ _ _ (dgo a.seats (m :: rest) i b) = R
    obtain ⟨x1, x2, x3⟩ := m
    simp only at sa1
    have hbd := fun h => @dgo_bad a.seats ⟨x1, x2, x3⟩ rest i b h
    have hgo := @dgo_go a.seats ⟨x1, x2, x3⟩ rest i b
    generalize hT : tms (i : Int) a.seats = T at *
    simp only [badM] at hbd hgo
    rw [rnd0_some]
    conv => lhs; arg 2; arg 1; rw [s57_b0]
    simp (disch := omega) [hi, get_low, hd, hg, sa1, la, if_pos, hn1, IntWalk.i64_in, P0, rCell, rcells, i1, i2, n2, hse]
    have wi : IntKind.wrap .i64 ((i : Int) + 1) = (i : Int) + 1 := IntWalk.i64_in _ (by omega)
    have wb : IntKind.wrap .i64 (b + 1) = b + 1 := IntWalk.i64_in _ (by omega)
    have bad : (decide (x1 < 0) || (decide (x1 ≥ 4) || (decide (x2.length ≠ 32) || decide (x3.length ≠ 32)))) = true ∨ 1 < T ∨ (T = 1 ∧ x1 = 0) ∨ (T = 0 ∧ (x1 = 1 ∨ x1 = 3)) →
        R = some (.ret, x57_0 (P0 M 0) (.bool false) (.int .i64 b), mk [(0, rCell a sa (.slice (some ⟨d, id, z, 0⟩) a.mems.length 3) fa)] :: M) := fun h => by
      rw [← hR, (hbd h).1, (hbd h).2]; rfl
    by_cases c1 : x1 < 0
    · obtain rfl := bad (.inl (by simp [c1]))
      simp [hn1, c1, i1, i2, P0, rCell, rcells]
    by_cases c2 : 3 < x1
    · have c22 : (4 : Int) ≤ x1 := by omega
      obtain rfl := bad (.inl (by simp [c22]))
      simp [hn1, c1, c2, i1, i2, P0, rCell, rcells]
    by_cases c3 : x2.length = 32
    · have c3' : (x2.length : Int) = 32 := by omega
      by_cases c4 : x3.length = 32
      · have c4' : (x3.length : Int) = 32 := by omega
        simp [hn1, c1, c2, c3, c4, c3', c4']
        by_cases c6 : 1 < T
        · have c6' : 1 < (T : Int) := by omega
          obtain rfl := bad (.inr (.inl c6))
          simp [hn1, c6, c6', i1, i2, P0, rCell, rcells]
        have c6' : ¬ 1 < (T : Int) := by omega
        have hgo := hgo (by simp [c3, c4]; omega) c6
        have hT01 : T = 0 ∨ T = 1 := by omega
        rcases hT01 with rfl | rfl
        · by_cases c7 : x1 = 1
          · obtain rfl := bad (.inr (.inr (.inr ⟨rfl, .inl c7⟩)))
            simp [hn1, c7, i1, i2, P0, rCell, rcells]
          by_cases c5 : x1 = 3
          · obtain rfl := bad (.inr (.inr (.inr ⟨rfl, .inr c5⟩)))
            simp [hn1, c5, i1, i2, P0, rCell, rcells]
          have hgo := hgo (by omega) (by simp [c7, c5])
          rw [hgo.1, hgo.2, if_neg c5] at hR
          subst hR
          simpa [hn1, c5, c7, i1, i2, P0, rCell, rcells, wi, wb] using ih2
        · by_cases c7 : x1 = 0
          · obtain rfl := bad (.inr (.inr (.inl ⟨rfl, c7⟩)))
            simp [hn1, c7, i1, i2, P0, rCell, rcells]
          have hgo := hgo (by simp [c7]) (by omega)
          by_cases c5 : x1 = 3
          · rw [hgo.1, hgo.2, if_pos c5] at hR
            subst hR
            simpa [hn1, c5, c7, i1, i2, P0, rCell, rcells, wi, wb] using ih1
          · rw [hgo.1, hgo.2, if_neg c5] at hR
            subst hR
            simpa [hn1, c5, c7, i1, i2, P0, rCell, rcells, wi, wb] using ih2
      · have c4' : ¬ (x3.length : Int) = 32 := by omega
        obtain rfl := bad (.inl (by simp [c4]))
        simp [hn1, c1, c2, c3, c4, c3', c4', i1, i2, P0, rCell, rcells]
    · have c3' : ¬ (x2.length : Int) = 32 := by omega
      obtain rfl := bad (.inl (by simp [c3]))
      simp [hn1, c1, c2, c3, c3', i1, i2, P0, rCell, rcells]

end Go.Proofs.YtaennaoaoahjmaaDoor
