/-
  The record's law: which records are good, as the document says: the loops.
-/
import Derived.Test.YtaennaoaoahjmaaDoorB2
set_option maxRecDepth 100000
set_option linter.unusedSimpArgs false
set_option linter.unusedVariables false
namespace Go.Proofs.YtaennaoaoahjmaaDoor
open Go.Det

/-- How often a number is a seat. -/
def tms (x : Int) : List Int → Nat
  | [] => 0
  | y :: l => (if y = x then 1 else 0) + tms x l

theorem tms_le (x : Int) : ∀ l, tms x l ≤ l.length
  | [] => Nat.le_refl _
  | y :: l => by
    have := tms_le x l
    simp only [tms, List.length_cons]
    split <;> omega

set_option maxHeartbeats 4000000 in
theorem l26 (C : Det.Calls) (M : Mem) (a : Rec) (sa ma : AV) (fa : Bool) (ha : IsRec M a sa ma) (x : Int) (N : Nat) (h1 : a.seats.length = N) (j : Nat) : ∀ (i n c : Nat), i + j = N → j < n → c ≤ i →
    fgt a67_0 (rnd0 (some (e67_0 (.int .i64 x) (P0 M 0) (.int .i64 c) (.int .i64 i), mk [(0, rCell a sa ma fa)] :: M)) k67_0 C s67_b0 n) =
      some (.exit 0, x67_0 (.int .i64 ((c + tms x (a.seats.drop i) : Nat) : Int)), mk [] :: M) := by
  have i1 := WS_ids ha.s
  have i2 := WM_ids ha.m
  have n1 := ha.s.len
  have hNl := ha.hs
  rw [h1] at n1
  induction j with
  | zero =>
    intro i n c h hn hc
    obtain rfl : i = N := by omega
    rw [rnd0_some, List.drop_of_length_le (by omega)]
    conv => lhs; arg 2; arg 1; rw [s67_b0]
    simp [P0, rCell, rcells, i1, i2, n1, tms]
  | succ j ih0 =>
    intro i n c h hn hc
    obtain ⟨n, rfl⟩ : ∃ m, n = m + 1 := ⟨n - 1, by omega⟩
    have hi : i < N := by omega
    have hs1 := ha.s
    obtain ⟨d, id, z, rw_, fl, r, hvv, hd, hg⟩ := hs1.block (by omega)
    subst hvv
    have ga := map_app_get (AV.int .i64) a.seats r i (by omega)
    have hn1 : d ≠ M.length := by omega
    rw [drop_nth a.seats i (by omega)]
    have iht := ih0 (i + 1) n (c + 1) (by omega) (by omega) (by omega)
    have ihf := ih0 (i + 1) n c (by omega) (by omega) (by omega)
    clear ih0 hs1
    simp only [tms]
    generalize a.seats.drop (i + 1) = rest at *
    generalize nth a.seats i = y at *
    rw [rnd0_some]
    conv => lhs; arg 2; arg 1; rw [s67_b0]
    by_cases hy : y = x
    · rw [if_pos hy, show c + (1 + tms x rest) = c + 1 + tms x rest by omega]
      generalize c + 1 + tms x rest = T at *
      simpa (disch := omega) [hi, get_low, hd, hg, ga, h1, if_pos, hn1, IntWalk.i64_in, P0, rCell, rcells, i1, i2, n1, hy] using iht
    · rw [if_neg hy, Nat.zero_add]
      generalize c + tms x rest = T at *
      simpa (disch := omega) [hi, get_low, hd, hg, ga, h1, if_pos, hn1, IntWalk.i64_in, P0, rCell, rcells, i1, i2, n1, hy] using ihf

theorem seated_ev (k : Nat) (M : Mem) (r : Rec) (sv mv : AV) (h : IsRec M r sv mv) (x : Int) : callFn SP (k + 1) 67 [recV r sv mv, .int .i64 x] M = some (.int .i64 (tms x r.seats), [], M) := by
  have hl := l26 (callFn SP k) M r sv mv (AV.under 0 sv && AV.under 0 mv && (sv.noNil && mv.noNil)) h x r.seats.length rfl r.seats.length 0 (r.seats.length + 1) 0 (by omega) (by omega) (by omega)
  rw [List.drop_zero, Nat.zero_add] at hl
  have i1 := WS_ids h.s
  have i2 := WM_ids h.m
  have hml := h.hs
  obtain ⟨count, epoch, data, slots, mark, built, growing, seats, mems⟩ := r
  simp only at hl hml ⊢
  rw [call_fn (f := 67) (by rfl) (by simp)]
  simp only [recV, rcells]
  simp
  rw [ev_loop (seats.length + 1) (by simp [i1, i2, P0, rCell, rcells]) hl (by omega)]
  simp

/-- The disks as the document looks at them: how many are being built; none: one is bad. -/
def dgo (S : List Int) : List Mb → Nat → Int → Option Int
  | [], _, b => some b
  | m :: l, i, b => if badM m = true then none else if 1 < tms i S then none else if tms i S = 1 ∧ m.st = 0 then none else if tms i S = 0 ∧ (m.st = 1 ∨ m.st = 3) then none
    else dgo S l (i + 1) (if m.st = 3 then b + 1 else b)

/-- How many are being built, where the loop ends. -/
def dcv (S : List Int) : List Mb → Nat → Int → Int
  | [], _, b => b
  | m :: l, i, b => if badM m = true then b else if 1 < tms i S then b else if tms i S = 1 ∧ m.st = 0 then b else if tms i S = 0 ∧ (m.st = 1 ∨ m.st = 3) then b
    else dcv S l (i + 1) (if m.st = 3 then b + 1 else b)

theorem dgo_bad {S : List Int} {m : Mb} {l : List Mb} {i : Nat} {b : Int} (h : badM m = true ∨ 1 < tms i S ∨ (tms i S = 1 ∧ m.st = 0) ∨ (tms i S = 0 ∧ (m.st = 1 ∨ m.st = 3))) :
    dgo S (m :: l) i b = none ∧ dcv S (m :: l) i b = b := by
  by_cases h1 : badM m = true
  · exact ⟨by rw [dgo, if_pos h1], by rw [dcv, if_pos h1]⟩
  by_cases h2 : 1 < tms i S
  · exact ⟨by rw [dgo, if_neg h1, if_pos h2], by rw [dcv, if_neg h1, if_pos h2]⟩
  by_cases h3 : tms i S = 1 ∧ m.st = 0
  · exact ⟨by rw [dgo, if_neg h1, if_neg h2, if_pos h3], by rw [dcv, if_neg h1, if_neg h2, if_pos h3]⟩
  have h4 : tms i S = 0 ∧ (m.st = 1 ∨ m.st = 3) := by
    rcases h with h | h | h | h
    · exact absurd h h1
    · exact absurd h h2
    · exact absurd h h3
    · exact h
  exact ⟨by rw [dgo, if_neg h1, if_neg h2, if_neg h3, if_pos h4], by rw [dcv, if_neg h1, if_neg h2, if_neg h3, if_pos h4]⟩

theorem dgo_go {S : List Int} {m : Mb} {l : List Mb} {i : Nat} {b : Int} (h1 : ¬ badM m = true) (h2 : ¬ 1 < tms i S) (h3 : ¬ (tms i S = 1 ∧ m.st = 0)) (h4 : ¬ (tms i S = 0 ∧ (m.st = 1 ∨ m.st = 3))) :
    dgo S (m :: l) i b = dgo S l (i + 1) (if m.st = 3 then b + 1 else b) ∧ dcv S (m :: l) i b = dcv S l (i + 1) (if m.st = 3 then b + 1 else b) :=
  ⟨by rw [dgo, if_neg h1, if_neg h2, if_neg h3, if_neg h4], by rw [dcv, if_neg h1, if_neg h2, if_neg h3, if_neg h4]⟩

def r12a (M : Mem) (c : Con) (v5 : AV) : Option Int → Option (Ex × Env × Mem)
  | none => some (.ret, x57_0 (P0 M 0) (.bool false) v5, mk [(0, c)] :: M)
  | some b => some (.exit 0, x57_0 (P0 M 0) .dead (.int .i64 b), mk [(0, c)] :: M)

theorem ite_le {m : Mb} {b : Int} {i : Nat} (hb : b ≤ i) (hb1 : -1 < b) : (if m.st = 3 then b + 1 else b) ≤ ((i + 1 : Nat) : Int) ∧ -1 < (if m.st = 3 then b + 1 else b) := by split <;> omega

def inR (n : Nat) (l : List Int) : Bool := l.all fun x => decide (0 ≤ x ∧ x < n)

end Go.Proofs.YtaennaoaoahjmaaDoor
