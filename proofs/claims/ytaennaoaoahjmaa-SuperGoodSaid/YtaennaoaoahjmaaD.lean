/-
  The record's law: the records that are made of plain data, the call.
-/
import Derived.Test.YtaennaoaoahjmaaC
set_option maxRecDepth 100000
set_option linter.unusedSimpArgs false
set_option linter.unusedVariables false
namespace Go.Proofs.Ytaennaoaoahjmaa
open Go.Det

/-- The record of plain data. -/
def recOf (r : Rec) (seats : List Int) (ds : List Dk) : Rec := { r with seats := seats.take 30, mems := (ds.take 20).map mOf }

def hsN (l : List Int) : Nat := if l = [] then 0 else 1
def outC (r : Rec) : List Con := (if r.seats = [] then [] else [.cells (r.seats.map (AV.int .i64)) true true]) ++ (if r.mems = [] then [] else [.cells (r.mems.flatMap mc) true true, .cells (r.mems.flatMap mc) true true])

set_option maxHeartbeats 4000000 in
theorem records_ev (k : Nat) (M : Mem) (r : Rec) (sv dv : AV) (seats : List Int) (ds : List Dk) (hs : WS M (AV.int .i64) sv seats) (hd : WM M 4 dc dv ds) :
    callFn SP (k + 1) 7 [recV r sv dv] M = some (.tuple [recV (recOf r seats ds) (sV M.length 0 (recOf r seats ds).seats) (mV M.length (hsN (recOf r seats ds).seats) (recOf r seats ds).mems),
      recV (recOf r seats ds) (sV M.length 0 (recOf r seats ds).seats) (mV M.length (hsN (recOf r seats ds).seats + 1) (recOf r seats ds).mems)], outC (recOf r seats ds), M) := by
  obtain ⟨count, epoch, data, slots, mark, built, growing, _, _⟩ := r
  rw [call_fn (f := 7) (by rfl) (by simp)]
  simp only [recV, rcells, recOf]
  have m1 : min (0 : Int) 30 = 0 := by decide
  have m2 : min (0 : Int) 20 = 0 := by decide
  have hmn : ∀ a : Nat, min (a : Int) 30 = ((min a 30 : Nat) : Int) := fun a => by omega
  have hmn2 : ∀ a : Nat, min (a : Int) 20 = ((min a 20 : Nat) : Int) := fun a => by omega
  rcases hs with ⟨es, rfl, rfl⟩ | ⟨es, rfl, rfl⟩ | ⟨d1, id1, z1, rw1, fl1, r1, rfl, hd1, hg1⟩
  · rcases hd with ⟨e, rfl, rfl⟩ | ⟨e, rfl, rfl⟩ | ⟨d, id, z, rw_, fl, r', rfl, hd, hg⟩
    · have hl := l7 (callFn SP k) M (.slice none 0 4) [] 0 rfl (by omega) WM.nil ⟨count, epoch, data, slots, mark, built, growing, [], []⟩ (.slice none 0 1) [] (.inl ⟨rfl, rfl⟩) 0 0 1 rfl (by omega)
      simp (disch := omega) [m1, m2, if_true]
      rw [ev_loop 1 (by simp [L7, z9, rC, rcells, mV, mB]) hl (by omega)]
      simp [L7, z9, rC, rcells, mV, mB, sV, outC, hsN]
    · have hl := l7 (callFn SP k) M (.slice0 4) [] 0 rfl (by omega) (.inr (.inl ⟨_, rfl, rfl⟩)) ⟨count, epoch, data, slots, mark, built, growing, [], []⟩ (.slice none 0 1) [] (.inl ⟨rfl, rfl⟩) 0 0 1 rfl (by omega)
      simp (disch := omega) [m1, m2, if_true]
      rw [ev_loop 1 (by simp [L7, z9, rC, rcells, mV, mB]) hl (by omega)]
      simp [L7, z9, rC, rcells, mV, mB, sV, outC, hsN]
    · have hn2 : d ≠ M.length := by omega
      have hl := l7 (callFn SP k) M (.slice (some ⟨d, id, z, 0⟩) (min ds.length 20) 4) (ds.take 20) (min ds.length 20) (by simp; omega) (by omega) (WM_take 20 hd hg (by omega)) ⟨count, epoch, data, slots, mark, built, growing, [], []⟩ (.slice none 0 1) [] (.inl ⟨rfl, rfl⟩) (min ds.length 20) 0 (min ds.length 20 + 1) (by omega) (by omega)
      generalize (ds.take 20).map mOf = ms at hl ⊢
      have hml : (ms.flatMap mc).length = 3 * ms.length := by rw [flat_len mc_len]; omega
      simp (disch := omega) [m1, m2, hmn, hmn2, get_low, hd, hn2, if_pos, if_true]
      rw [ev_loop (min ds.length 20 + 1) (by simp [L7, z9, rC, rcells, mV, mB, hn2]) hl (by omega)]
      generalize hFF : ms.flatMap mc = FF at hml
      by_cases hds : ms = []
      · simp [L7, z9, rC, rcells, mV, mB, sV, outC, hsN, hFF, hml, hds]
      · simp [L7, z9, rC, rcells, mV, mB, sV, outC, hsN, hFF, hml, hds]
  · rcases hd with ⟨e, rfl, rfl⟩ | ⟨e, rfl, rfl⟩ | ⟨d, id, z, rw_, fl, r', rfl, hd, hg⟩
    · have hl := l7 (callFn SP k) M (.slice none 0 4) [] 0 rfl (by omega) WM.nil ⟨count, epoch, data, slots, mark, built, growing, [], []⟩ (.slice none 0 1) [] (.inl ⟨rfl, rfl⟩) 0 0 1 rfl (by omega)
      simp (disch := omega) [m1, m2, if_true]
      rw [ev_loop 1 (by simp [L7, z9, rC, rcells, mV, mB]) hl (by omega)]
      simp [L7, z9, rC, rcells, mV, mB, sV, outC, hsN]
    · have hl := l7 (callFn SP k) M (.slice0 4) [] 0 rfl (by omega) (.inr (.inl ⟨_, rfl, rfl⟩)) ⟨count, epoch, data, slots, mark, built, growing, [], []⟩ (.slice none 0 1) [] (.inl ⟨rfl, rfl⟩) 0 0 1 rfl (by omega)
      simp (disch := omega) [m1, m2, if_true]
      rw [ev_loop 1 (by simp [L7, z9, rC, rcells, mV, mB]) hl (by omega)]
      simp [L7, z9, rC, rcells, mV, mB, sV, outC, hsN]
    · have hn2 : d ≠ M.length := by omega
      have hl := l7 (callFn SP k) M (.slice (some ⟨d, id, z, 0⟩) (min ds.length 20) 4) (ds.take 20) (min ds.length 20) (by simp; omega) (by omega) (WM_take 20 hd hg (by omega)) ⟨count, epoch, data, slots, mark, built, growing, [], []⟩ (.slice none 0 1) [] (.inl ⟨rfl, rfl⟩) (min ds.length 20) 0 (min ds.length 20 + 1) (by omega) (by omega)
      generalize (ds.take 20).map mOf = ms at hl ⊢
      have hml : (ms.flatMap mc).length = 3 * ms.length := by rw [flat_len mc_len]; omega
      simp (disch := omega) [m1, m2, hmn, hmn2, get_low, hd, hn2, if_pos, if_true]
      rw [ev_loop (min ds.length 20 + 1) (by simp [L7, z9, rC, rcells, mV, mB, hn2]) hl (by omega)]
      generalize hFF : ms.flatMap mc = FF at hml
      by_cases hds : ms = []
      · simp [L7, z9, rC, rcells, mV, mB, sV, outC, hsN, hFF, hml, hds]
      · simp [L7, z9, rC, rcells, mV, mB, sV, outC, hsN, hFF, hml, hds]
  · have hn1 : d1 ≠ M.length := by omega
    by_cases hz : seats = []
    · subst hz
      rcases hd with ⟨e, rfl, rfl⟩ | ⟨e, rfl, rfl⟩ | ⟨d, id, z, rw_, fl, r', rfl, hd, hg⟩
      · have hl := l7 (callFn SP k) M (.slice none 0 4) [] 0 rfl (by omega) WM.nil ⟨count, epoch, data, slots, mark, built, growing, [], []⟩ (.slice none 0 1) [] (.inl ⟨rfl, rfl⟩) 0 0 1 rfl (by omega)
        simp (disch := omega) [m1, m2, m1, hmn, get_low, hd1, hg1, hn1, if_pos]
        rw [ev_loop 1 (by simp [L7, z9, rC, rcells, mV, mB, hn1]) hl (by omega)]
        simp [L7, z9, rC, rcells, mV, mB, sV, outC, hsN, hn1]
      · have hl := l7 (callFn SP k) M (.slice0 4) [] 0 rfl (by omega) (.inr (.inl ⟨_, rfl, rfl⟩)) ⟨count, epoch, data, slots, mark, built, growing, [], []⟩ (.slice none 0 1) [] (.inl ⟨rfl, rfl⟩) 0 0 1 rfl (by omega)
        simp (disch := omega) [m1, m2, m1, hmn, get_low, hd1, hg1, hn1, if_pos]
        rw [ev_loop 1 (by simp [L7, z9, rC, rcells, mV, mB, hn1]) hl (by omega)]
        simp [L7, z9, rC, rcells, mV, mB, sV, outC, hsN, hn1]
      · have hn2 : d ≠ M.length := by omega
        have hl := l7 (callFn SP k) M (.slice (some ⟨d, id, z, 0⟩) (min ds.length 20) 4) (ds.take 20) (min ds.length 20) (by simp; omega) (by omega) (WM_take 20 hd hg (by omega)) ⟨count, epoch, data, slots, mark, built, growing, [], []⟩ (.slice none 0 1) [] (.inl ⟨rfl, rfl⟩) (min ds.length 20) 0 (min ds.length 20 + 1) (by omega) (by omega)
        generalize (ds.take 20).map mOf = ms at hl ⊢
        have hml : (ms.flatMap mc).length = 3 * ms.length := by rw [flat_len mc_len]; omega
        simp (disch := omega) [m1, m2, hmn, hmn2, get_low, hd, hn2, if_pos, m1, hmn, get_low, hd1, hg1, hn1, if_pos]
        rw [ev_loop (min ds.length 20 + 1) (by simp [L7, z9, rC, rcells, mV, mB, hn2, hn1]) hl (by omega)]
        generalize hFF : ms.flatMap mc = FF at hml
        by_cases hds : ms = []
        · simp [L7, z9, rC, rcells, mV, mB, sV, outC, hsN, hFF, hml, hds, hn1]
        · simp [L7, z9, rC, rcells, mV, mB, sV, outC, hsN, hFF, hml, hds, hn1]
    · have hseg : List.take (min seats.length 30) (seats.map (AV.int .i64) ++ r1) = (seats.take 30).map (AV.int .i64) := by
        rw [List.take_append_of_le_length (by simp; omega), ← List.map_take]
        congr 1
        by_cases h30 : seats.length ≤ 30
        · rw [Nat.min_eq_left h30, List.take_of_length_le h30, List.take_of_length_le (Nat.le_refl _)]
        · rw [Nat.min_eq_right (by omega)]
      have hlen : min seats.length 30 = (seats.take 30).length := by simp; omega
      have hne : ¬ seats.take 30 = [] := by simpa using hz
      generalize seats.take 30 = ls at hseg hlen hne ⊢
      have hpos : 0 < ls.length := List.length_pos_iff.2 hne
      have hle : ls.length ≤ seats.length := by omega
      have hle2 : ls.length ≤ 30 := by omega
      rw [hlen] at hseg
      have hun : AV.unders 0 (ls.map (AV.int .i64)) = true := unders_iff.2 fun v hv => by simp only [List.mem_map] at hv; obtain ⟨x, _, rfl⟩ := hv; rfl
      rcases hd with ⟨e, rfl, rfl⟩ | ⟨e, rfl, rfl⟩ | ⟨d, id, z, rw_, fl, r', rfl, hd, hg⟩
      · have hl := l7 (callFn SP k) M (.slice none 0 4) [] 0 rfl (by omega) WM.nil ⟨count, epoch, data, slots, mark, built, growing, [], []⟩ (.slice (some ⟨M.length, 4028, ls.length, 0⟩) (ls.length) 1) [(4028, .cells (ls.map (AV.int .i64)) true true)] (.inr ⟨_, _, rfl, rfl⟩) 0 0 1 rfl (by omega)
        simp (disch := omega) [m1, m2, m1, hmn, get_low, hd1, hg1, hn1, if_pos, hne, hseg, hpos, hlen, hle, hle2, hun]
        rw [ev_loop 1 (by simp [L7, z9, rC, rcells, mV, mB, hn1, hne]) hl (by omega)]
        simp [L7, z9, rC, rcells, mV, mB, sV, outC, hsN, hn1, hne]
      · have hl := l7 (callFn SP k) M (.slice0 4) [] 0 rfl (by omega) (.inr (.inl ⟨_, rfl, rfl⟩)) ⟨count, epoch, data, slots, mark, built, growing, [], []⟩ (.slice (some ⟨M.length, 4028, ls.length, 0⟩) (ls.length) 1) [(4028, .cells (ls.map (AV.int .i64)) true true)] (.inr ⟨_, _, rfl, rfl⟩) 0 0 1 rfl (by omega)
        simp (disch := omega) [m1, m2, m1, hmn, get_low, hd1, hg1, hn1, if_pos, hne, hseg, hpos, hlen, hle, hle2, hun]
        rw [ev_loop 1 (by simp [L7, z9, rC, rcells, mV, mB, hn1, hne]) hl (by omega)]
        simp [L7, z9, rC, rcells, mV, mB, sV, outC, hsN, hn1, hne]
      · have hn2 : d ≠ M.length := by omega
        have hl := l7 (callFn SP k) M (.slice (some ⟨d, id, z, 0⟩) (min ds.length 20) 4) (ds.take 20) (min ds.length 20) (by simp; omega) (by omega) (WM_take 20 hd hg (by omega)) ⟨count, epoch, data, slots, mark, built, growing, [], []⟩ (.slice (some ⟨M.length, 4028, ls.length, 0⟩) (ls.length) 1) [(4028, .cells (ls.map (AV.int .i64)) true true)] (.inr ⟨_, _, rfl, rfl⟩) (min ds.length 20) 0 (min ds.length 20 + 1) (by omega) (by omega)
        generalize (ds.take 20).map mOf = ms at hl ⊢
        have hml : (ms.flatMap mc).length = 3 * ms.length := by rw [flat_len mc_len]; omega
        simp (disch := omega) [m1, m2, hmn, hmn2, get_low, hd, hn2, if_pos, m1, hmn, get_low, hd1, hg1, hn1, if_pos, hne, hseg, hpos, hlen, hle, hle2, hun]
        rw [ev_loop (min ds.length 20 + 1) (by simp [L7, z9, rC, rcells, mV, mB, hn2, hn1, hne]) hl (by omega)]
        generalize hFF : ms.flatMap mc = FF at hml
        by_cases hds : ms = []
        · simp [L7, z9, rC, rcells, mV, mB, sV, outC, hsN, hFF, hml, hds, hn1, hne]
        · simp [L7, z9, rC, rcells, mV, mB, sV, outC, hsN, hFF, hml, hds, hn1, hne]

end Go.Proofs.Ytaennaoaoahjmaa
