/-
  The record's law: copies.
-/
import Derived.Test.YtaennaoaoahjmaaA
set_option maxRecDepth 100000
set_option linter.unusedSimpArgs false
set_option linter.unusedVariables false
namespace Go.Proofs.Ytaennaoaoahjmaa
open Go.Det

set_option maxHeartbeats 2000000 in
/-- A list of numbers, copied. -/
theorem clone1_ev (k : Nat) (M : Mem) (v : AV) (l : List Int) (hv : WS M (AV.int .i64) v l) (hN : l.length < 2 ^ 40) (hnn : l = [] → v = .slice none 0 1) :
    callFn SP (k + 1) 32 [v] M = some (if l = [] then .slice none 0 0 else .slice (some ⟨M.length, 0, l.length, 0⟩) l.length 1, if l = [] then [] else [.cells (l.map (AV.int .i64)) true true], M) := by
  rw [call_fn (f := 32) (by rfl) (by simp)]
  by_cases h0 : l = []
  · rw [hnn h0]
    simp [h0]
  · obtain ⟨d, id, z, rw_, fl, r, rfl, hd, hg⟩ := hv.block (List.length_pos_iff.2 h0)
    have hn1 : d ≠ M.length := by omega
    have hpos : 0 < l.length := List.length_pos_iff.2 h0
    have hseg : List.take l.length (l.map (AV.int .i64) ++ r) = l.map (AV.int .i64) := by rw [List.take_append_of_le_length (by simp), List.take_of_length_le (by simp)]
    have hun : AV.unders 0 (l.map (AV.int .i64)) = true := unders_map _ _ (fun x => rfl) l
    simp (disch := omega) [h0, get_low, hd, hg, hn1, if_pos, hseg, hun]

theorem un3 (l : List Mb) : AV.unders 0 (l.flatMap mc) = true := unders_iff.2 fun v hv => by
  simp only [List.mem_flatMap, mc, List.mem_cons, List.not_mem_nil, or_false] at hv
  obtain ⟨x, _, rfl | rfl | rfl⟩ := hv <;> rfl

set_option maxHeartbeats 2000000 in
/-- A list of disks, copied. -/
theorem clone3_ev (k : Nat) (M : Mem) (v : AV) (l : List Mb) (hv : WM M 3 mc v l) (hN : l.length < 2 ^ 30) (hnn : l = [] → v = .slice none 0 0) :
    callFn SP (k + 1) 33 [v] M = some (if l = [] then .slice none 0 0 else .slice (some ⟨M.length, 0, 3 * l.length, 0⟩) l.length 3, if l = [] then [] else [.cells (l.flatMap mc) true true], M) := by
  rw [call_fn (f := 33) (by rfl) (by simp)]
  by_cases h0 : l = []
  · rw [hnn h0]
    simp [h0]
  · obtain ⟨d, id, z, rw_, fl, r, rfl, hd, hg⟩ := hv.block (List.length_pos_iff.2 h0)
    have hn1 : d ≠ M.length := by omega
    have hpos : 0 < l.length := List.length_pos_iff.2 h0
    have hml : (l.flatMap mc).length = 3 * l.length := by rw [flat_len mc_len]; omega
    have hun : AV.unders 0 (l.flatMap mc) = true := un3 l
    generalize l.flatMap mc = FF at hml hun hg ⊢
    have hseg : List.take (l.length * 3) (FF ++ r) = FF := by rw [List.take_append_of_le_length (by omega), List.take_of_length_le (by omega)]
    simp (disch := omega) [h0, get_low, hd, hg, hn1, if_pos, hseg, hun, hml, rep]

def hN1 (l : List Int) : Nat := if l = [] then 0 else 1
def cS (D : Nat) (r : Rec) : AV := if r.seats = [] then .slice none 0 0 else .slice (some ⟨D, 0, r.seats.length, 0⟩) r.seats.length 1
def cM (D : Nat) (r : Rec) : AV := if r.mems = [] then .slice none 0 0 else .slice (some ⟨D, hN1 r.seats, 3 * r.mems.length, 0⟩) r.mems.length 3
def cC (r : Rec) : List Con := (if r.seats = [] then [] else [.cells (r.seats.map (AV.int .i64)) true true]) ++ (if r.mems = [] then [] else [.cells (r.mems.flatMap mc) true true])

set_option maxHeartbeats 4000000 in
theorem copy_ev (k : Nat) (M : Mem) (r : Rec) (sv mv : AV) (h : IsRec M r sv mv) (hm : r.mems.length < 2 ^ 30) (h1 : r.seats = [] → sv = .slice none 0 1) (h2 : r.mems = [] → mv = .slice none 0 0) :
    callFn SP (k + 2) 15 [recV r sv mv] M = some (recV r (cS M.length r) (cM M.length r), cC r, M) := by
  obtain ⟨count, epoch, data, slots, mark, built, growing, seats, mems⟩ := r
  obtain ⟨hs, hmm, hsl, hml⟩ := h
  simp only at hs hmm hsl hml hm h1 h2
  rw [call_fn (f := 15) (by rfl) (by simp)]
  have e1 := fun l => clone1_ev k (mk l :: ro M) sv seats (hs.ro.cons _) hsl h1
  have e2 := fun l => clone3_ev k (mk l :: ro M) mv mems (hmm.ro.cons _) hm h2
  simp only [recV, rcells, cS, cM, cC, hN1]
  have hfl : (mkCellsA [u64 count, u64 epoch, .int .i64 data, .int .i64 slots, .int .i64 mark, .int .i64 built, .bool growing, sv, mv]) = .cells [u64 count, u64 epoch, .int .i64 data, .int .i64 slots, .int .i64 mark, .int .i64 built, .bool growing, sv, mv] true false := by
    rcases hs with ⟨w, rfl, rfl⟩ | ⟨w, rfl, rfl⟩ | ⟨d, id, z, rw1, fl, r, rfl, h3, h4⟩ <;> simp
  have hun : AV.unders 0 (seats.map (AV.int .i64)) = true := unders_map _ _ (fun x => rfl) seats
  have hml3 : (mems.flatMap mc).length = 3 * mems.length := by rw [flat_len mc_len]; omega
  have hun3 := un3 mems
  clear hmm
  generalize mems.flatMap mc = FF at hml3 hun3 e2 ⊢
  simp only [mkCellsA, Con.cells.injEq, true_and] at hfl
  have hfl2 := hfl
  simp only [AV.unders, AV.noNils, AV.under, AV.noNil, u64, Bool.true_and] at hfl2
  by_cases hz : seats = []
  · have hsv := h1 hz
    subst hsv
    by_cases hz2 : mems = []
    · have hmv := h2 hz2
      subst hmv
      simp [e1, e2, hz, hz2]
    · simp (disch := omega) [e1, e2, hz, hz2, hml3, hun3]
  · by_cases hz2 : mems = []
    · have hmv := h2 hz2
      subst hmv
      simp (disch := omega) [e1, e2, hz, hz2, hun]
    · obtain ⟨d, id, z, rw_, fl, r, rfl, hd, hg⟩ := hs.block (List.length_pos_iff.2 hz)
      simp (disch := omega) [e1, e2, hz, hz2, hml3, hun3, hun]

end Go.Proofs.Ytaennaoaoahjmaa
