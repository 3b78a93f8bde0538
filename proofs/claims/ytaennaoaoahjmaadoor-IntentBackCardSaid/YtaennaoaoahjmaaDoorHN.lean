/-
  The log's law IntentBack: what was logged is read back.
-/
import Derived.Test.YtaennaoaoahjmaaDoorHM
set_option maxRecDepth 100000
set_option linter.unusedSimpArgs false
set_option linter.unusedVariables false
namespace Go.Proofs.YtaennaoaoahjmaaDoor
open Go.Det Go.Det.S

/-- The log's reading, with cells behind it. -/
theorem get_one (M : Mem) (hG : Gl kv v0 2 3 M) (W : List Wr) (h1 : putE W = 0) (X : List (List UInt8)) (hX : ∀ t ∈ X, t.length < 2 ^ 48) (hXl : X.length ≤ 20) : ∀ L i, mk L i = some (.cells ((putC W).map AV.str ++ X.map AV.str) false true) →
    callFn SP (1 + 11) 10 [.slice (some ⟨M.length, i, W.length + 1 + X.length, 0⟩) (W.length + 1 + X.length) 1, .str (dgC W)] (mk L :: ro M) = some (.tuple [gV (M.length + 1) W, .int .i64 0], gC W, mk L :: ro M) := by
  intro L i hL
  obtain ⟨a1, a2⟩ := get_put h1 X
  obtain ⟨b1, b2⟩ := cells_len h1
  obtain ⟨p1, _, _⟩ := putE_ok h1
  have hc : (putC W).length = W.length + 1 := by simp [putC]
  have := get_in 1 M hG (putC W ++ X) [] (by rw [List.length_append, hc]; omega) (fun t ht => by
      rcases List.mem_append.1 ht with ht | ht
      · exact Nat.lt_trans (b1 t ht) (by omega)
      · exact hX t ht) (by
      rw [nW_put W X p1, List.take_append_of_le_length (by omega), List.take_of_length_le (by omega)]; omega) L i (W.length + 1 + X.length) (W.length + 1 + X.length) (dgC W) (by rw [hL, List.map_append, List.append_nil]) (by rw [List.append_nil, List.length_map, List.length_append, hc]) (by rw [List.length_append, hc])
  rw [this]
  unfold getOut
  rw [if_pos a1, a2]

/-- The log's reading without its last cell. -/
theorem get_two (M : Mem) (hG : Gl kv v0 2 3 M) (W : List Wr) (h1 : putE W = 0) : ∀ L i, mk L i = some (.cells ((putC W).map AV.str) false true) →
    callFn SP (1 + 11) 10 [.slice (some ⟨M.length, i, W.length + 1, 0⟩) W.length 1, .str (dgC W)] (mk L :: ro M) = some (.tuple [.slice none 0 0, .int .i64 (if W = [] then 4 else 3)], [], mk L :: ro M) := by
  intro L i hL
  obtain ⟨b1, b2⟩ := cells_len h1
  obtain ⟨p1, _, _⟩ := putE_ok h1
  have hc : (putC W).length = W.length + 1 := by simp [putC]
  have hm : ((putC W).take W.length).map AV.str ++ ((putC W).drop W.length).map AV.str = (putC W).map AV.str := by rw [← List.map_append, List.take_append_drop]
  have := get_in 1 M hG ((putC W).take W.length) (((putC W).drop W.length).map AV.str) (by rw [List.length_take]; omega) (fun t ht => Nat.lt_trans (b1 t (List.mem_of_mem_take ht)) (by omega)) (by
      have e1 := cat_take_le ((putC W).take W.length) (nW ((putC W).take W.length) + 1)
      have e2 := cat_take_le (putC W) W.length
      omega) L i (W.length + 1) W.length (dgC W) (by rw [hL, hm]) (by rw [hm, List.length_map, hc]) (by rw [List.length_take]; omega)
  rw [this]
  unfold getOut
  rw [get_less h1, if_neg (by split <;> decide)]

/-- The log's reading under any digest. -/
theorem get_three (M : Mem) (hG : Gl kv v0 2 3 M) (W : List Wr) (h1 : putE W = 0) (d : List UInt8) : ∀ L i, mk L i = some (.cells ((putC W).map AV.str) false true) →
    callFn SP (1 + 11) 10 [.slice (some ⟨M.length, i, W.length + 1, 0⟩) (W.length + 1) 1, .str d] (mk L :: ro M) = if dgC W = d then some (.tuple [gV (M.length + 1) W, .int .i64 0], gC W, mk L :: ro M) else some (.tuple [.slice none 0 0, .int .i64 22], [], mk L :: ro M) := by
  intro L i hL
  by_cases hd : dgC W = d
  · subst hd
    rw [if_pos rfl]
    exact get_one M hG W h1 [] (by simp) (by simp) L i (by rw [hL, List.map_nil, List.append_nil])
  · obtain ⟨b1, b2⟩ := cells_len h1
    obtain ⟨p1, _, _⟩ := putE_ok h1
    have hc : (putC W).length = W.length + 1 := by simp [putC]
    have := get_in 1 M hG (putC W) [] (by omega) (fun t ht => Nat.lt_trans (b1 t ht) (by omega)) (by
      have e1 := cat_take_le (putC W) (nW (putC W) + 1)
      omega) L i (W.length + 1) (W.length + 1) d (by rw [hL, List.append_nil]) (by rw [List.append_nil, List.length_map, hc]) hc.symm
    rw [this, if_neg hd]
    unfold getOut
    rw [get_other h1 d hd, if_neg (by decide)]

set_option maxHeartbeats 8000000 in
theorem back_yes (M : Mem) (hG : Gl kv v0 2 3 M) (v : AV) (l : List Pl) (hv : WM M 3 pc v l) (mv : AV) (ms : List (List UInt8)) (hm : WS M AV.str mv ms) (hms : ∀ t ∈ ms, t.length < 2 ^ 48) (hN : ms.length < 2 ^ 60) (d : List UInt8) (h1 : putE (wsOf l) = 0) (h0 : wsOf l ≠ []) : callFn SP 13 4 [v, mv, .str d] M = some (.bool true, [], M) := by
  have hw := fun L => wakes_e 0 (mk L :: ro M) (hG.ro.cons _)
  have hW := fun L => writes_ev 11 (mk L :: ro M) v l (hv.ro.cons _)
  have hWl : (wsOf l).length ≤ 120 := by simp [wsOf]; omega
  generalize wsOf l = W at *
  obtain ⟨p1, _, _⟩ := putE_ok h1
  have hp := put_in 1 M hG W hWl
  have hml : (W.flatMap wc).length = 2 * W.length := by rw [flat_len wc_len]; omega
  have g1 := get_one M hG W h1 (ms.take (min ms.length 20)) (fun t ht => hms t (List.mem_of_mem_take ht)) (by rw [List.length_take]; omega)
  have g2 := get_two M hG W h1
  have g3 := get_three M hG W h1 d
  have hPL : ((putC W).map AV.str).length = W.length + 1 := by rw [List.length_map]; simp [putC]
  have hc : (putC W).length = W.length + 1 := by simp [putC]
  have hlp := l4 (callFn SP 12) M W ((putC W).map AV.str) (W.length + 1) d (dgC W) W.length rfl p1 hPL W.length 0 (W.length + 1) (by omega) (by omega)
  have hpt : ((putC W).map AV.str).take (W.length + 1) = (putC W).map AV.str := List.take_of_length_le (by omega)
  have hun : AV.unders 0 ((putC W).map AV.str) = true := unders_iff.2 fun x hx => by obtain ⟨t, _, rfl⟩ := List.mem_map.1 hx; rfl
  have hum : AV.unders 0 ((ms.take (min ms.length 20)).map AV.str) = true := unders_iff.2 fun x hx => by obtain ⟨t, _, rfl⟩ := List.mem_map.1 hx; rfl
  simp only [putOut, h1, if_true, oV, oC, hc] at hp
  simp only [qV, qC, if_neg h0] at hW
  simp only [gV, gC, if_neg h0] at g1 g2 g3
  have n0 : 0 < W.length := by cases W; exact absurd rfl h0; simp
  clear h0
  generalize hDG : dgC W = DG at *
  generalize (putC W).map AV.str = PC at *
  generalize W.flatMap wc = FF at *
  clear hDG
  generalize W.length = n at *
  clear hv h1 hc
  have c1 : ((n + 1 : Nat) : Int) = (n : Int) + 1 := by omega
  have w1 : IntKind.wrap .i64 ((n : Int) + 1 - 1) = n := by rw [show (n : Int) + 1 - 1 = n by omega]; exact IntWalk.i64_in _ (by omega)
  have w2 : IntKind.wrap .i64 (n : Int) = n := IntWalk.i64_in _ (by omega)
  have i0 : ¬ (n : Int) + 1 = 0 := by omega
  have hlim : (n + 1) * 16 ≤ 35184372088832 ∧ n + 1 ≤ 35184372088832 := by omega
  have hb : (0 : Int) ≤ n ∧ (n : Int) ≤ (n : Int) + 1 := by omega
  have hb2 : (n : Int) ≤ (n : Int) + 1 := by omega
  rw [call_fn (f := 4) (by rfl) (by simp)]
  rcases hm with ⟨e, rfl, rfl⟩ | ⟨e, rfl, rfl⟩ | ⟨dd, id, z, rw_, fl, r, rfl, hd, hg⟩
  · simp only [List.length_nil, List.take_nil, List.map_nil, List.append_nil, Nat.zero_min, Nat.add_zero] at g1
    have m0 : min (0 : Int) 20 = 0 := by decide
    simp [hW, hp, hw, ro_length, hml, hPL, hpt, hun, g1, m0, hlim, c1]
    rw [ev_loop (n + 1) (by simp) hlp (by omega)]
    by_cases hDd : DG = d
    · subst hDd
      simp only [if_true] at g3
      simp [g2, g3, ro_length, hml, hPL, c1, w1, w2, hb, hb2, i0]
    · have hDd' : ¬ d = DG := fun h => hDd h.symm
      simp only [if_neg hDd] at g3
      simp [g2, g3, ro_length, hml, hPL, c1, w1, w2, hb, hb2, i0, hDd, hDd']
  · simp only [List.length_nil, List.take_nil, List.map_nil, List.append_nil, Nat.zero_min, Nat.add_zero] at g1
    have m0 : min (0 : Int) 20 = 0 := by decide
    simp [hW, hp, hw, ro_length, hml, hPL, hpt, hun, g1, m0, hlim, c1]
    rw [ev_loop (n + 1) (by simp) hlp (by omega)]
    by_cases hDd : DG = d
    · subst hDd
      simp only [if_true] at g3
      simp [g2, g3, ro_length, hml, hPL, c1, w1, w2, hb, hb2, i0]
    · have hDd' : ¬ d = DG := fun h => hDd h.symm
      simp only [if_neg hDd] at g3
      simp [g2, g3, ro_length, hml, hPL, c1, w1, w2, hb, hb2, i0, hDd, hDd']
  · obtain ⟨k, hk, hk20, hkl⟩ : ∃ k, min ms.length 20 = k ∧ k ≤ 20 ∧ k ≤ ms.length := ⟨min ms.length 20, rfl, by omega, by omega⟩
    have m0 : min (ms.length : Int) 20 = (k : Int) := by omega
    have hkI : (k : Int) ≤ ms.length := by omega
    rw [hk] at g1 hum
    have hMk : (ms.take k).length = k := by rw [List.length_take]; omega
    have hMl : ((ms.take k).map AV.str).length = k := by rw [List.length_map, hMk]
    have htk : (ms.map AV.str ++ r).take k = (ms.take k).map AV.str := by rw [List.take_append_of_le_length (by rw [List.length_map]; omega), List.map_take]
    have hBl : k ≤ (ms.map AV.str ++ r).length := by rw [List.length_append, List.length_map]; omega
    rw [hMk] at g1
    have hdn : dd ≠ M.length := by omega
    have hlim2 : (n + 1 + k) * 16 ≤ 35184372088832 ∧ n + 1 + k ≤ 35184372088832 := by omega
    generalize (ms.take k).map AV.str = MK at *
    generalize ms.map AV.str ++ r = BA at *
    generalize ms.length = ML at *
    simp [hW, hp, hw, ro_length, hml, hPL, hpt, hun, g1, m0, hlim, c1, get_low, hd, hg, hdn, hkI, hk, hkl, hMl, htk, hBl, hum, hlim2]
    rw [ev_loop (n + 1) (by simp) hlp (by omega)]
    by_cases hDd : DG = d
    · subst hDd
      simp only [if_true] at g3
      simp [g2, g3, ro_length, hml, hPL, c1, w1, w2, hb, hb2, i0]
    · have hDd' : ¬ d = DG := fun h => hDd h.symm
      simp only [if_neg hDd] at g3
      simp [g2, g3, ro_length, hml, hPL, c1, w1, w2, hb, hb2, i0, hDd, hDd']

end Go.Proofs.YtaennaoaoahjmaaDoor
