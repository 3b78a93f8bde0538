/-
  The log's law IntentBack, evaluated.
-/
import Derived.Test.YtaennaoaoahjmaaDoorHK
import Derived.Test.YtaennaoaoahjmaaDoorHJ
set_option maxRecDepth 100000
set_option linter.unusedSimpArgs false
set_option linter.unusedVariables false
namespace Go.Proofs.YtaennaoaoahjmaaDoor
open Go.Det Go.Det.S

set_option maxHeartbeats 1000000 in
theorem l4 (C : Det.Calls) (M : Mem) (W : List Wr) (PC : List AV) (P : Nat) (d dg : List UInt8) (N : Nat) (h1 : W.length = N) (hN : N < 96) (hP : PC.length = P) (j : Nat) : ∀ (i n : Nat), i + j = N → j < n →
    fgt a4_0 (rnd0 (some (e4_0 (.str d) (.slice (some ⟨M.length, 4004, 2 * N, 0⟩) N 2) (.slice (some ⟨M.length, 8004, P, 0⟩) P 1) (.str dg) (.slice (some ⟨M.length, 20036, 2 * N, 0⟩) N 2) (.int .i64 N) (.int .i64 i), mk [(4004, .cells (W.flatMap wc) true true), (8004, .cells PC true true), (20036, .cells (W.flatMap wc) true true)] :: M)) k4_0 C s4_b0 n) =
      some (.exit 0, x4_0 (.str d) .dead (.slice (some ⟨M.length, 8004, P, 0⟩) P 1) (.str dg), mk [(8004, .cells PC true true)] :: M) := by
  have hFl : (W.flatMap wc).length = 2 * N := by rw [flat_len wc_len]; omega
  induction j with
  | zero =>
    intro i n h hn
    obtain rfl : i = N := by omega
    generalize W.flatMap wc = FF at *
    rw [rnd0_some]
    conv => lhs; arg 2; arg 1; rw [s4_b0]
    simp
  | succ j ih0 =>
    intro i n h hn
    obtain ⟨n, rfl⟩ : ∃ m, n = m + 1 := ⟨n - 1, by omega⟩
    have hi : i < N := by omega
    have ga0 := flat_cell wc_len [] W i 0 (by omega) (by omega)
    have ga1 := flat_cell wc_len [] W i 1 (by omega) (by omega)
    rw [List.append_nil] at ga0 ga1
    have ih := ih0 (i + 1) n (by omega) (by omega)
    clear ih0
    generalize W.flatMap wc = FF at *
    generalize nth W i = x at *
    obtain ⟨x1, x2⟩ := x
    simp only [wc, Nat.add_zero, List.getElem?_cons_zero, List.getElem?_cons_succ] at ga0 ga1
    have la0 : i * 2 < FF.length := by omega
    have la1 : i * 2 + 1 < FF.length := by omega
    have ga0' := cell_at ga0 la0
    have ga1' := cell_at ga1 la1
    have hlt : (i : Int) < N := by omega
    have wi : IntKind.wrap .i64 ((i : Int) + 1) = (i : Int) + 1 := IntWalk.i64_in _ (by omega)
    have hle : i * 2 + 2 ≤ FF.length := by omega
    have hle2 : i * 2 + 2 ≤ 2 * N := by omega
    have hsl : (FF.drop (i * 2)).take 2 = [.int .i64 x1, .str x2] := by
      rw [List.drop_eq_getElem_cons la0, List.drop_eq_getElem_cons la1, ga0', ga1']; rfl
    rw [rnd0_some]
    conv => lhs; arg 2; arg 1; rw [s4_b0]
    simpa [hi, hlt, ga0, ga1, ga0', ga1', la0, la1, hFl, wi, hle, hle2, hsl] using ih

/-- Get, in a law's scope. -/
theorem get_in (k : Nat) (M : Mem) (hG : Gl kv v0 2 3 M) (cs : List (List UInt8)) (r : List AV) (hN : cs.length < 2 ^ 30) (hl : ∀ t ∈ cs, t.length < 2 ^ 48) (hcat : (cat (cs.take (nW cs + 1))).length < 2 ^ 43) :
    ∀ L i z N sum, mk L i = some (.cells (cs.map AV.str ++ r) false true) → z = (cs.map AV.str ++ r).length → N = cs.length → callFn SP (k + 11) 10 [.slice (some ⟨M.length, i, z, 0⟩) N 1, .str sum] (mk L :: ro M) = some ((getOut (M.length + 1) cs sum).1, (getOut (M.length + 1) cs sum).2, mk L :: ro M) := by
  intro L i z N sum hL hz hNN
  subst hz hNN
  have := get_ev k (mk L :: ro M) (hG.ro.cons _) (.slice (some ⟨M.length, i, (cs.map AV.str ++ r).length, 0⟩) cs.length 1) cs sum (.inr (.inr ⟨M.length, i, (cs.map AV.str ++ r).length, false, true, r, rfl, by simp [ro_length], fun o => by
      have := Det.get_top (mk L) (ro M) i (cs.map AV.str ++ r).length o
      rw [hL, ro_length] at this
      exact this.trans (if_pos rfl)⟩)) hN hl hcat
  simpa [ro_length] using this

/-- The cells but the last one are too few. -/
theorem get_less {l : List Wr} (h : putE l = 0) (sum : List UInt8) : gE ((putC l).take l.length) sum = if l = [] then 4 else 3 := by
  obtain ⟨h1, h2, h3⟩ := putE_ok h
  unfold gE
  cases l with
  | nil => rfl
  | cons w t =>
    have hne : (putC (w :: t)).take (w :: t).length ≠ [] := by simp [putC]
    have hn : nW ((putC (w :: t)).take (w :: t).length) = (w :: t).length := nW_put (w :: t) [] h1 |> fun h => by
      unfold nW at h ⊢
      exact h
    have hs : sizeE (nth ((putC (w :: t)).take (w :: t).length) 0) = 0 := (size_be8 _ h1).1
    rw [if_neg hne, hs, hn, if_neg (by decide), if_pos (by rw [List.length_take]; omega), if_neg (by simp)]

/-- Another digest is another log's. -/
theorem get_other {l : List Wr} (h : putE l = 0) (sum : List UInt8) (hs : dgC l ≠ sum) : gE (putC l) sum = 22 := by
  obtain ⟨h1, h2, h3⟩ := putE_ok h
  have hn := nW_put l [] h1
  rw [List.append_nil] at hn
  have hsz := size_be8 l.length h1
  have hlen : (putC l).length = l.length + 1 := by simp [putC]
  unfold gE
  rw [hn, if_neg (by simp [putC]), show nth (putC l) 0 = K.be8 (BitVec.ofNat 64 l.length) from rfl, hsz.1, if_neg (by decide), if_neg (by omega), List.take_of_length_le (by omega), if_pos (show dg kv v0 (2 :: cat (putC l)) ≠ sum from hs)]

set_option maxHeartbeats 8000000 in
/-- The law, where the writes are refused. -/
theorem back_no (M : Mem) (hG : Gl kv v0 2 3 M) (v : AV) (l : List Pl) (hv : WM M 3 pc v l) (mv : AV) (d : List UInt8) (h1 : putE (wsOf l) ≠ 0) : callFn SP 13 4 [v, mv, .str d] M = some (.bool true, [], M) := by
  have hw := fun L => wakes_e 0 (mk L :: ro M) (hG.ro.cons _)
  have hW := fun L => writes_ev 11 (mk L :: ro M) v l (hv.ro.cons _)
  have hpN := fun L => put_ev 1 (mk L :: ro M) (hG.ro.cons _) (.slice none 0 0) [] WM.nil (by simp)
  have hWl : (wsOf l).length ≤ 120 := by simp [wsOf]; omega
  generalize wsOf l = W at *
  have hp := put_in 1 M hG W hWl
  have h0 : W ≠ [] := fun h => h1 (by rw [h]; rfl)
  have hml : (W.flatMap wc).length = 2 * W.length := by rw [flat_len wc_len]; omega
  simp only [putOut, if_neg h1] at hp
  simp only [qV, qC, if_neg h0] at hW
  generalize putE W = E at *
  generalize W.flatMap wc = FF at *
  rw [call_fn (f := 4) (by rfl) (by simp)]
  simp [hW, hp, hw, ro_length, hml, h1]

end Go.Proofs.YtaennaoaoahjmaaDoor
