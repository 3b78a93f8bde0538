/-
  The log's law IntentPuts, evaluated.
-/
import Derived.Test.YtaennaoaoahjmaaDoorHI
set_option maxRecDepth 100000
set_option linter.unusedSimpArgs false
set_option linter.unusedVariables false
namespace Go.Proofs.YtaennaoaoahjmaaDoor
open Go.Det Go.Det.S

abbrev writeTy : Ty := .st [.int .i64, .int .i64, .str]

theorem pl_shp {s : Scope} {x : List AV} (h : Shp s writeTy x) : ∃ p, x = pc p := by
  obtain ⟨a1, b1, rfl, h1, h⟩ := h
  obtain ⟨a2, b2, rfl, h2, h⟩ := h
  obtain ⟨a3, b3, rfl, h3, h⟩ := h
  have h0 : b3 = [] := h
  subst h0
  obtain ⟨n1, rfl, _⟩ := h1
  obtain ⟨n2, rfl, _⟩ := h2
  obtain ⟨t, rfl, _⟩ := h3
  exact ⟨⟨n1, n2, t⟩, rfl⟩
theorem pls_flat {s : Scope} : ∀ (ls : List (List AV)), (∀ x ∈ ls, Shp s writeTy x) → ∃ ps : List Pl, ls.flatten = ps.flatMap pc ∧ ps.length = ls.length
  | [], _ => ⟨[], rfl, rfl⟩
  | x :: ls, h => by
    obtain ⟨p, rfl⟩ := pl_shp (h x (by simp))
    obtain ⟨ps, h1, h2⟩ := pls_flat ls fun y hy => h y (by simp [hy])
    exact ⟨p :: ps, by simp [h1], by simp [h2]⟩
theorem pls_shp (g : Scope) {s : Scope} {v : AV} (h : ArgShp s (.sl writeTy) v) : ∃ ps, WM [s, g] 3 pc v ps ∧ ps.length ≤ reachBytes := by
  rcases ArgShp_sl h with h | h | ⟨id, ls, fl, h1, h2, h3, h4⟩
  · exact ⟨[], .inl ⟨_, h, rfl⟩, by simp⟩
  · exact ⟨[], .inr (.inl ⟨_, h, rfl⟩), by simp⟩
  · obtain ⟨ps, h5, h6⟩ := pls_flat ls h4
    refine ⟨ps, .inr (.inr ⟨1, id, ls.flatten.length, false, fl, [], ?_, by simp, fun o => ?_⟩), by omega⟩
    · rw [h1, h6]; rfl
    · rw [List.append_nil, ← h5]
      show Det.get (s :: [g]) ⟨1, id, _, o⟩ = _
      have : Det.get (s :: [g]) ⟨1, id, ls.flatten.length, o⟩ = some (.cells ls.flatten false fl) := by
        have := Det.get_top s [g] id ls.flatten.length o
        rw [h2] at this
        simpa [Con.size] using this
      exact this

set_option maxHeartbeats 4000000 in
theorem puts_core (M : Mem) (hG : Gl kv v0 2 3 M) (hR : Gl kv v0 0 1 M) (v : AV) (l : List Pl) (hv : WM M 3 pc v l) : callFn SP 13 6 [v] M = some (.bool true, [], M) := by
  have hw := fun L => wakes_e 0 (mk L :: ro M) (hG.ro.cons _)
  have hW := fun L => writes_ev 11 (mk L :: ro M) v l (hv.ro.cons _)
  have hE := fun L => empty_ev 0 (mk L :: ro M) (hG.ro.cons _)
  have hZ := fun L => refput_ev 4 (mk L :: ro M) (hR.ro.cons _) (.slice none 0 0) [] WM.nil (by simp)
  have hWl : (wsOf l).length ≤ 120 := by simp [wsOf]; omega
  have hn0 := fun L => equal_ev 11 (mk L :: ro M) (.slice none 0 0) (.slice none 0 0) [] [] WS.nil WS.nil (by simp)
  have hpN := fun L => put_ev 1 (mk L :: ro M) (hG.ro.cons _) (.slice none 0 0) [] WM.nil (by simp)
  generalize wsOf l = W at *
  have hml : (W.flatMap wc).length = 2 * W.length := by rw [flat_len wc_len]; omega
  have hp : ∀ L i, mk L i = some (.cells (W.flatMap wc) false true) → callFn SP (1 + 11) 16 [.slice (some ⟨M.length, i, 2 * W.length, 0⟩) W.length 2] (mk L :: ro M) = some ((putOut (M.length + 1) W).1, (putOut (M.length + 1) W).2, mk L :: ro M) := by
    intro L i hL
    have := put_ev 1 (mk L :: ro M) (hG.ro.cons _) _ W (WM.top (rw_ := false) (fl := true) hL (d := M.length) (by rw [ro_length]) hml.symm rfl) (by omega)
    simpa [ro_length] using this
  have hq : ∀ L i, mk L i = some (.cells (W.flatMap wc) false true) → callFn SP (4 + 8) 17 [.slice (some ⟨M.length, i, 2 * W.length, 0⟩) W.length 2] (mk L :: ro M) = some ((putOut (M.length + 1) W).1, (putOut (M.length + 1) W).2, mk L :: ro M) := by
    intro L i hL
    have := refput_ev 4 (mk L :: ro M) (hR.ro.cons _) _ W (WM.top (rw_ := false) (fl := true) hL (d := M.length) (by rw [ro_length]) hml.symm rfl) (by omega)
    simpa [ro_length] using this
  have he : ∀ W : List Wr, W.length ≤ 120 → ∀ L i i', mk L i = some (oC (putC W)).ro → mk L i' = some (oC (putC W)).ro → callFn SP (11 + 1) 18 [oV M.length i (putC W), oV M.length i' (putC W)] (mk L :: ro M) = some (.bool true, [], mk L :: ro M) := by
    intro W hWl L i i' h1 h2
    have := equal_ev 11 (mk L :: ro M) (oV M.length i (putC W)) (oV M.length i' (putC W)) (putC W) (putC W) (WS.top' (rw_ := false) (fl := true) h1 (by rw [ro_length]) rfl rfl) (WS.top' (rw_ := false) (fl := true) h2 (by rw [ro_length]) rfl rfl) (by simp [putC]; omega)
    simpa using this
  have heN := he [] (by simp)
  have he := he W hWl
  have hml1 : ∀ W, ((putC W).map AV.str).length = (putC W).length := fun W => List.length_map _
  have h1N := hml1 []
  have h1W := hml1 W
  simp only [putOut, show putE [] = 0 from rfl, if_true, ro_length, List.length_cons, oV, oC, Con.ro] at hZ hE hpN hp hq he heN
  rw [call_fn (f := 6) (by rfl) (by simp)]
  by_cases h0 : W = []
  · subst h0
    simp only [qV, qC, if_true] at hW
    generalize dgC [] = DD at *
    generalize (putC []).map AV.str = PC at *
    generalize (putC []).length = PL at *
    simp [hW, hpN, hZ, hw, heN, hE, ro_length, h1N]
  · simp only [qV, qC, if_neg h0] at hW
    generalize dgC [] = DD at *
    generalize (putC []).map AV.str = PC at *
    generalize (putC []).length = PL at *
    generalize hFF : W.flatMap wc = FF at *
    by_cases h1 : putE W = 0
    · simp only [h1, if_true] at hp hq
      generalize dgC W = DW at *
      generalize (putC W).map AV.str = PW at *
      generalize (putC W).length = PLW at *
      simp [hW, hp, hq, hZ, hw, he, hE, ro_length, h1N, h1W, hml]
    · simp only [if_neg h1] at hp hq
      generalize putE W = EE at *
      simp [hW, hp, hq, hZ, hw, hn0, hE, ro_length, h1N, hml]

theorem ev_IntentPuts (s : Scope) (args : List AV) (h : ArgsShp s [.sl writeTy] args) : ∃ k M', callFn SP k 6 args [s, gScope G4] = some (.bool true, [], M') := by
  obtain ⟨v, _, rfl, hv, rfl⟩ := h
  obtain ⟨l, hl, _⟩ := pls_shp (gScope G4) hv
  exact ⟨13, _, puts_core [s, gScope G4] (gl_sha s) (gl_ref s) v l hl⟩

end Go.Proofs.YtaennaoaoahjmaaDoor
