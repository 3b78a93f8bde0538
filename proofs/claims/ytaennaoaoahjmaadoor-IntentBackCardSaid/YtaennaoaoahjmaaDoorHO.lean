/-
  The log's law IntentBack: its arguments; no writes.
-/
import Derived.Test.YtaennaoaoahjmaaDoorHN
set_option maxRecDepth 100000
set_option linter.unusedSimpArgs false
set_option linter.unusedVariables false
namespace Go.Proofs.YtaennaoaoahjmaaDoor
open Go.Det Go.Det.S

theorem l4z (C : Det.Calls) (M : Mem) (PC : List AV) (P : Nat) (d dg : List UInt8) (hP : PC.length = P) :
    fgt a4_0 (rnd0 (some (e4_0 (.str d) (.slice none 0 0) (.slice (some ⟨M.length, 8004, P, 0⟩) P 1) (.str dg) (.slice none 0 0) (.int .i64 0) (.int .i64 0), mk [(8004, .cells PC true true)] :: M)) k4_0 C s4_b0 1) =
      some (.exit 0, x4_0 (.str d) .dead (.slice (some ⟨M.length, 8004, P, 0⟩) P 1) (.str dg), mk [(8004, .cells PC true true)] :: M) := by
  rw [rnd0_some]
  conv => lhs; arg 2; arg 1; rw [s4_b0]
  simp

set_option maxHeartbeats 8000000 in
theorem back_nil (M : Mem) (hG : Gl kv v0 2 3 M) (v : AV) (l : List Pl) (hv : WM M 3 pc v l) (mv : AV) (ms : List (List UInt8)) (hm : WS M AV.str mv ms) (hms : ∀ t ∈ ms, t.length < 2 ^ 48) (hN : ms.length < 2 ^ 60) (d : List UInt8) (h0 : wsOf l = []) : callFn SP 13 4 [v, mv, .str d] M = some (.bool true, [], M) := by
  have hw := fun L => wakes_e 0 (mk L :: ro M) (hG.ro.cons _)
  have hW := fun L => writes_ev 11 (mk L :: ro M) v l (hv.ro.cons _)
  have hp := fun L => put_ev 1 (mk L :: ro M) (hG.ro.cons _) (.slice none 0 0) [] WM.nil (by simp)
  have g1 := get_one M hG [] rfl (ms.take (min ms.length 20)) (fun t ht => hms t (List.mem_of_mem_take ht)) (by rw [List.length_take]; omega)
  have g2 := get_two M hG [] rfl
  have g3 := get_three M hG [] rfl d
  have hPL : ((putC []).map AV.str).length = 1 := rfl
  have hlp := l4z (callFn SP 12) M ((putC []).map AV.str) 1 d (dgC []) rfl
  have hpt : ((putC []).map AV.str).take 1 = (putC []).map AV.str := rfl
  have hun : AV.unders 0 ((putC []).map AV.str) = true := unders_iff.2 fun x hx => by obtain ⟨t, _, rfl⟩ := List.mem_map.1 hx; rfl
  have hum : AV.unders 0 ((ms.take (min ms.length 20)).map AV.str) = true := unders_iff.2 fun x hx => by obtain ⟨t, _, rfl⟩ := List.mem_map.1 hx; rfl
  have hc : (putC []).length = 1 := rfl
  simp only [putOut, show putE [] = 0 from rfl, if_true, oV, oC, hc] at hp
  simp only [qV, qC, h0, if_true] at hW
  simp only [gV, gC, if_true, List.length_nil, Nat.zero_add] at g1 g2 g3
  generalize hDG : dgC [] = DG at *
  generalize (putC []).map AV.str = PC at *
  clear hDG hv h0 hc
  have w2 : IntKind.wrap .i64 (0 : Int) = 0 := IntWalk.i64_in _ (by omega)
  rw [call_fn (f := 4) (by rfl) (by simp)]
  rcases hm with ⟨e, rfl, rfl⟩ | ⟨e, rfl, rfl⟩ | ⟨dd, id, z, rw_, fl, r, rfl, hd, hg⟩
  · simp only [List.length_nil, List.take_nil, List.map_nil, List.append_nil, Nat.zero_min, Nat.add_zero] at g1
    have m0 : min (0 : Int) 20 = 0 := by decide
    simp [hW, hp, hw, ro_length, hPL, hpt, hun, g1, m0]
    rw [ev_loop 1 (by simp) hlp (by omega)]
    by_cases hDd : DG = d
    · subst hDd
      simp only [if_true] at g3
      simp [g2, g3, ro_length, hPL, w2]
    · have hDd' : ¬ d = DG := fun h => hDd h.symm
      simp only [if_neg hDd] at g3
      simp [g2, g3, ro_length, hPL, w2, hDd, hDd']
  · simp only [List.length_nil, List.take_nil, List.map_nil, List.append_nil, Nat.zero_min, Nat.add_zero] at g1
    have m0 : min (0 : Int) 20 = 0 := by decide
    simp [hW, hp, hw, ro_length, hPL, hpt, hun, g1, m0]
    rw [ev_loop 1 (by simp) hlp (by omega)]
    by_cases hDd : DG = d
    · subst hDd
      simp only [if_true] at g3
      simp [g2, g3, ro_length, hPL, w2]
    · have hDd' : ¬ d = DG := fun h => hDd h.symm
      simp only [if_neg hDd] at g3
      simp [g2, g3, ro_length, hPL, w2, hDd, hDd']
  · obtain ⟨k, hk, hk20, hkl⟩ : ∃ k, min ms.length 20 = k ∧ k ≤ 20 ∧ k ≤ ms.length := ⟨min ms.length 20, rfl, by omega, by omega⟩
    have m0 : min (ms.length : Int) 20 = (k : Int) := by omega
    have hkI : (k : Int) ≤ ms.length := by omega
    rw [hk] at g1 hum
    have hMk : (ms.take k).length = k := by rw [List.length_take]; omega
    have hMl : ((ms.take k).map AV.str).length = k := by rw [List.length_map, hMk]
    have htk : (ms.map AV.str ++ r).take k = (ms.take k).map AV.str := by rw [List.take_append_of_le_length (by rw [List.length_map]; omega), List.map_take]
    have hBl : k ≤ (ms.map AV.str ++ r).length := by rw [List.length_append, List.length_map]; omega
    rw [hMk] at g1
    have hdn : dd ≠ M.length := by omega
    have hlim2 : (1 + k) * 16 ≤ 35184372088832 ∧ 1 + k ≤ 35184372088832 := by omega
    generalize (ms.take k).map AV.str = MK at *
    generalize ms.map AV.str ++ r = BA at *
    generalize ms.length = ML at *
    simp [hW, hp, hw, ro_length, hPL, hpt, hun, g1, m0, get_low, hd, hg, hdn, hkI, hk, hkl, hMl, htk, hBl, hum, hlim2]
    rw [ev_loop 1 (by simp) hlp (by omega)]
    by_cases hDd : DG = d
    · subst hDd
      simp only [if_true] at g3
      simp [g2, g3, ro_length, hPL, w2]
    · have hDd' : ¬ d = DG := fun h => hDd h.symm
      simp only [if_neg hDd] at g3
      simp [g2, g3, ro_length, hPL, w2, hDd, hDd']

theorem strs_flat {s : Scope} : ∀ (ls : List (List AV)), (∀ x ∈ ls, Shp s .str x) → ∃ ts : List (List UInt8), ls.flatten = ts.map AV.str ∧ ts.length = ls.length ∧ ∀ t ∈ ts, t.length ≤ reachBytes
  | [], _ => ⟨[], rfl, rfl, by simp⟩
  | x :: ls, h => by
    obtain ⟨t, rfl, ht⟩ := h x (by simp)
    obtain ⟨ts, h1, h2, h3⟩ := strs_flat ls fun y hy => h y (by simp [hy])
    exact ⟨t :: ts, by simp [h1], by simp [h2], fun y hy => by
      rcases List.mem_cons.1 hy with rfl | hy
      · exact ht
      · exact h3 y hy⟩
theorem strs_shp (g : Scope) {s : Scope} {v : AV} (h : ArgShp s (.sl .str) v) : ∃ ts, WS [s, g] AV.str v ts ∧ ts.length ≤ reachBytes ∧ ∀ t ∈ ts, t.length ≤ reachBytes := by
  rcases ArgShp_sl h with h | h | ⟨id, ls, fl, h1, h2, h3, h4⟩
  · exact ⟨[], .inl ⟨_, h, rfl⟩, by simp, by simp⟩
  · exact ⟨[], .inr (.inl ⟨_, h, rfl⟩), by simp, by simp⟩
  · obtain ⟨ts, h5, h6, h7⟩ := strs_flat ls h4
    refine ⟨ts, .inr (.inr ⟨1, id, ls.flatten.length, false, fl, [], ?_, by simp, fun o => ?_⟩), by omega, h7⟩
    · rw [h1, h6]; rfl
    · rw [List.append_nil, ← h5]
      show Det.get (s :: [g]) ⟨1, id, _, o⟩ = _
      have := Det.get_top s [g] id ls.flatten.length o
      rw [h2] at this
      exact this.trans (if_pos rfl)

theorem ev_IntentBack (s : Scope) (args : List AV) (h : ArgsShp s [.sl writeTy, .sl .str, .str] args) : ∃ k M', callFn SP k 4 args [s, gScope G2] = some (.bool true, [], M') := by
  obtain ⟨v, _, rfl, hv, mv, _, rfl, hm, dv, _, rfl, hd, rfl⟩ := h
  obtain ⟨l, hl, _⟩ := pls_shp (gScope G2) hv
  obtain ⟨ms, hms, hn, ht⟩ := strs_shp (gScope G2) hm
  obtain ⟨d, rfl, _⟩ := ArgShp_str hd
  have hr : reachBytes < 2 ^ 48 := by decide
  refine ⟨13, [s, gScope G2], ?_⟩
  by_cases h1 : putE (wsOf l) = 0
  · by_cases h0 : wsOf l = []
    · exact back_nil _ (gl_sha2 s) v l hl mv ms hms (fun t h => Nat.lt_of_le_of_lt (ht t h) hr) (by omega) d h0
    · exact back_yes _ (gl_sha2 s) v l hl mv ms hms (fun t h => Nat.lt_of_le_of_lt (ht t h) hr) (by omega) d h1 h0
  · exact back_no _ (gl_sha2 s) v l hl mv d h1

end Go.Proofs.YtaennaoaoahjmaaDoor
