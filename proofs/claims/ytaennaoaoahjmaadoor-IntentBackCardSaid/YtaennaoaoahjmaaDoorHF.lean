/-
  The log's law: the writes that cells are: the program's.
-/
import Derived.Test.YtaennaoaoahjmaaDoorHE
set_option maxRecDepth 100000
set_option linter.unusedSimpArgs false
set_option linter.unusedVariables false
namespace Go.Proofs.YtaennaoaoahjmaaDoor
open Go.Det Go.Det.S

theorem WS_take {α : Type} {M : Mem} {d id z N : Nat} {f : α → AV} {rw_ fl : Bool} {r : List AV} {l : List α} (n : Nat) (hd : d < M.length) (hg : ∀ o, get M ⟨d, id, z, o⟩ = some (.cells (l.map f ++ r) rw_ fl)) (hN : N = min n l.length) :
    WS M f (.slice (some ⟨d, id, z, 0⟩) N 1) (l.take n) := by
  subst hN
  refine .inr (.inr ⟨d, id, z, rw_, fl, (l.drop n).map f ++ r, by rw [List.length_take], hd, fun o => ?_⟩)
  rw [hg, ← List.append_assoc, ← List.map_append, List.take_append_drop]

theorem sizeN_ok {t : List UInt8} (h : sizeE t = 0) : ∃ n : Nat, sizeN t = n + 1 ∧ n < 96 := by
  have hb := rbelow_lt 96 (t, 0) (by omega) (by omega)
  unfold sizeE at h
  unfold sizeN
  split at h
  · rename_i hd
    rw [if_pos hd]
    exact ⟨(K.rbelow 96 (t, 0)).1.toNat, by omega, by omega⟩
  · cases h
theorem sizeE_or (t : List UInt8) : sizeE t = 0 ∨ sizeE t = 4 := by
  unfold sizeE
  split
  · exact .inl rfl
  · exact .inr rfl

/-- How many cells are looked at behind the first one. -/
def nW (cells : List (List UInt8)) : Nat := (sizeN (nth cells 0)).toNat - 1
def gL (cells : List (List UInt8)) : List Wr := rdL ((cells.drop 1).take (nW cells))
/-- Get's error. -/
def gE (cells : List (List UInt8)) (sum : List UInt8) : Int :=
  if cells = [] then 4 else if sizeE (nth cells 0) ≠ 0 then 4 else if cells.length < nW cells + 1 then 3 else
  if dg kv v0 (2 :: cat (cells.take (nW cells + 1))) ≠ sum then 22 else if rdA ((cells.drop 1).take (nW cells)) = true then 0 else 4

def gV (D : Nat) (l : List Wr) : AV := if l = [] then .slice none 0 0 else .slice (some ⟨D, 0, 2 * l.length, 0⟩) l.length 2
def gC (l : List Wr) : List Con := if l = [] then [] else [.cells (l.flatMap wc) true true]
def getOut (D : Nat) (cells : List (List UInt8)) (sum : List UInt8) : AV × List Con :=
  if gE cells sum = 0 then (.tuple [gV D (gL cells), .int .i64 0], gC (gL cells)) else (.tuple [.slice none 0 0, .int .i64 (gE cells sum)], [])

theorem cat_take_le (l : List (List UInt8)) (n : Nat) : (cat (l.take n)).length ≤ (cat l).length := by
  have := congrArg List.length (cat_app (l.take n) (l.drop n))
  rw [List.take_append_drop, List.length_append] at this
  omega

set_option maxHeartbeats 8000000 in
theorem get_ev (k : Nat) (M : Mem) (hG : Gl kv v0 2 3 M) (v : AV) (l : List (List UInt8)) (sum : List UInt8) (hv : WS M AV.str v l) (hN : l.length < 2 ^ 30) (hl : ∀ t ∈ l, t.length < 2 ^ 48) (hcat : (cat (l.take (nW l + 1))).length < 2 ^ 43) :
    callFn SP (k + 11) 10 [v, .str sum] M = some ((getOut M.length l sum).1, (getOut M.length l sum).2, M) := by
  have i1 := WS_ids hv
  have n1 := hv.len
  unfold getOut gE
  by_cases h0 : l = []
  · simp only [if_pos h0, show ¬ (4 : Int) = 0 by decide, if_false]
    subst h0
    rw [call_fn (f := 10) (by rfl) (by simp)]
    simp [n1]
  have hl0 : 0 < l.length := by cases l; exact absurd rfl h0; simp
  obtain ⟨d, id, z, rw_, fl, r, hvv, hd, hg⟩ := hv.block hl0
  subst hvv
  have ga := map_app_get AV.str l r 0 hl0
  have hn1 : d ≠ M.length := by omega
  have hmem : nth l 0 ∈ l := List.mem_of_getElem? (getElem?_nth l 0 hl0)
  have hsz := fun L => size_ev (k + 4) (mk L :: ro M) (nth l 0) (hl _ hmem)
  have hbl : 0 < (l.map AV.str ++ r).length := by simp; omega
  have gb := cell_at ga hbl
  have hI0 : ¬ (l.length : Int) = 0 := by omega
  have hI1 : (0 : Int) < l.length := by omega
  simp only [if_neg h0]
  rcases sizeE_or (nth l 0) with hE | hE
  · obtain ⟨n, hn, hn96⟩ := sizeN_ok hE
    have hnW : nW l = n := by unfold nW; omega
    rw [hE, hn] at hsz
    simp only [gL, hE, hnW, ne_eq, not_true, if_false]
    have wn : IntKind.wrap .i64 (n : Int) = n := IntWalk.i64_in _ (by omega)
    by_cases h3 : l.length < n + 1
    · have h3' : (l.length : Int) < (n : Int) + 1 := by omega
      simp only [if_pos h3, show ¬ (3 : Int) = 0 by decide, if_false]
      generalize l.map AV.str ++ r = BA at *
      rw [call_fn (f := 10) (by rfl) (by simp)]
      simp [n1, h0, hI0, hI1, hl0, get_low, hd, hg, ga, gb, hbl, hn1, hsz, h3']
    · have h3' : ¬ (l.length : Int) < (n : Int) + 1 := by omega
      have h3n : n + 1 ≤ l.length := by omega
      have h3i : (n : Int) + 1 ≤ l.length := by omega
      have hnn : ((n : Int) + 1).toNat = n + 1 := by omega
      have hn0 : (0 : Int) ≤ (n : Int) + 1 := by omega
      have hdg := fun L => digest_e k (mk L :: ro M) (hG.ro.cons _) (.slice (some ⟨d, id, z, 0⟩) (n + 1) 1) (l.take (n + 1)) (WS_take (rw_ := false) (fl := fl) (r := r) (n + 1) (by simp [ro_length]; omega) (fun o => by rw [get_low (by rw [ro_length]; exact hd), get_ro, hg o]; rfl) (by omega)) (by rw [List.length_take]; omega) (by rw [hnW] at hcat; omega)
      have hlp := l10 (k + 5) M _ l n h3n (by omega) hv hl n 0 (n + 1) [] (by omega) (by omega) rfl
      rw [Nat.zero_add, List.nil_append] at hlp
      simp only [if_neg h3]
      generalize dg kv v0 (2 :: cat (l.take (n + 1))) = DG at *
      generalize rdA ((l.drop 1).take n) = OK at *
      generalize rdL ((l.drop 1).take n) = WL at *
      by_cases h22 : DG = sum
      · simp only [h22, not_true, if_false]
        rw [h22] at hdg
        generalize l.map AV.str ++ r = BA at *
        have hml : (WL.flatMap wc).length = 2 * WL.length := by rw [flat_len wc_len]; omega
        rw [call_fn (f := 10) (by rfl) (by simp)]
        simp [n1, h0, hI0, hI1, hl0, get_low, hd, hg, ga, gb, hbl, hn1, hsz, h3', h3n, h3i, hnn, hn0, hdg, wn]
        cases OK
        · simp only [r10, Bool.false_eq_true, if_false] at hlp
          rw [ev_loop (n + 1) (by simp [hn1, wV, wB, wn]) hlp (by omega)]
          simp [wV, wB]
        · simp only [r10, if_true] at hlp
          rw [ev_loop (n + 1) (by simp [hn1, wV, wB, wn]) hlp (by omega)]
          by_cases hw : WL = []
          · subst hw
            simp [r10, wV, wB, gV, gC]
          · generalize hFF : WL.flatMap wc = FF at *
            simp [r10, wV, wB, gV, gC, hw, hml, hFF]
      · simp only [h22, not_false_eq_true, if_true, show ¬ (22 : Int) = 0 by decide, if_false]
        generalize l.map AV.str ++ r = BA at *
        rw [call_fn (f := 10) (by rfl) (by simp)]
        simp [n1, h0, hI0, hI1, hl0, get_low, hd, hg, ga, gb, hbl, hn1, hsz, h3', h3n, h3i, hnn, hn0, hdg, h22]
  · simp only [hE, ne_eq, show ¬ (4 : Int) = 0 by decide, not_false_eq_true, if_true, if_false]
    rw [hE] at hsz
    generalize sizeN (nth l 0) = SN at *
    generalize l.map AV.str ++ r = BA at *
    rw [call_fn (f := 10) (by rfl) (by simp)]
    simp [n1, h0, hI0, hI1, hl0, get_low, hd, hg, ga, gb, hbl, hn1, hsz]

end Go.Proofs.YtaennaoaoahjmaaDoor
