/-
  The record's law: a copy is written over: the law's two loops.
-/
import Derived.Test.YtaennaoaoahjmaaA
set_option maxRecDepth 100000
set_option linter.unusedSimpArgs false
set_option linter.unusedVariables false
namespace Go.Proofs.Ytaennaoaoahjmaa
open Go.Det

/-- The record's block in a law's scope, whose seats and disks have these names. -/
def rB (D : Nat) (r : Rec) (i j : Nat) : Con :=
  .cells (rcells r (if r.seats = [] then .slice none 0 1 else .slice (some ⟨D, i, r.seats.length, 0⟩) r.seats.length 1) (if r.mems = [] then .slice none 0 0 else .slice (some ⟨D, j, 3 * r.mems.length, 0⟩) r.mems.length 3)) true false

def cB (D : Nat) (r : Rec) (i j : Nat) : Con :=
  .cells (rcells r (if r.seats = [] then .slice none 0 0 else .slice (some ⟨D, i, r.seats.length, 0⟩) r.seats.length 1) (if r.mems = [] then .slice none 0 0 else .slice (some ⟨D, j, 3 * r.mems.length, 0⟩) r.mems.length 3)) true false

def sC (l : List Int) : Con := .cells (l.map (AV.int .i64)) true true
def mC (l : List AV) : Con := .cells l true true

def xi (by_ x : Int) : Int := IntKind.wrap .i64 ((BitVec.ofInt 64 x ^^^ BitVec.ofInt 64 by_).toNat : Int)

def xl (by_ : Int) (l : List Int) (i : Nat) : List Int := (l.take i).map (xi by_) ++ l.drop i

theorem xl_len (by_ : Int) (l : List Int) (i : Nat) : (xl by_ l i).length = l.length := by simp [xl]; omega
theorem xl_nth (by_ : Int) (l : List Int) (i : Nat) (h : i < l.length) : ((xl by_ l i).map (AV.int .i64))[i]? = some (.int .i64 (nth l i)) := by
  rw [List.getElem?_map, xl, List.getElem?_append_right (by simp; omega)]
  have : i - ((l.take i).map (xi by_)).length = 0 := by simp; omega
  rw [this, List.getElem?_drop, Nat.add_zero, getElem?_nth l i h]
  rfl
theorem xl_set (by_ : Int) (l : List Int) (i : Nat) (h : i < l.length) : ((xl by_ l i).map (AV.int .i64)).set i (.int .i64 (xi by_ (nth l i))) = (xl by_ l (i + 1)).map (AV.int .i64) := by
  rw [← List.map_set]
  congr 1
  rw [xl, xl, List.set_append_right _ _ (by simp; omega)]
  have : i - ((l.take i).map (xi by_)).length = 0 := by simp; omega
  rw [this, drop_nth l i h, List.set_cons_zero, List.take_add_one, getElem?_nth l i h]
  simp

def jm (R : Rec) : Nat := if R.seats = [] then 4004 else 4005
def jc (R : Rec) : Nat := if R.seats = [] then 8004 else 8005

/-- The law's scope: two records, a copy of the first one. -/
def K6 (D : Nat) (R : Rec) (sl : List Int) (ml : List AV) : List (Nat × Con) :=
  (if R.seats = [] then [] else [(4004, sC R.seats)]) ++ (if R.mems = [] then [] else [(jm R, mC (R.mems.flatMap mc)), (jm R + 1, mC (R.mems.flatMap mc))]) ++
  [(4020, rB D R 4004 (jm R)), (4024, rB D R 4004 (jm R + 1))] ++ (if R.seats = [] then [] else [(8004, sC sl)]) ++ (if R.mems = [] then [] else [(jc R, mC ml)]) ++ [(8008, cB D R 8004 (jc R))]

set_option maxHeartbeats 4000000 in
theorem l6a (C : Det.Calls) (M : Mem) (by_ : Int) (R : Rec) (ml : List AV) (N : Nat) (h1 : R.seats.length = N) (hN : N ≤ 30) (j : Nat) : ∀ (i n : Nat), i + j = N → j < n →
    fgt a6_0 (rnd0 (some (e6_0 (.int .i64 by_) (.ptr (some ⟨M.length, 4020, 9, 0⟩)) (.ptr (some ⟨M.length, 4024, 9, 0⟩)) (.ptr (some ⟨M.length, 8008, 9, 0⟩)) (.int .i64 N) (.int .i64 i), mk (K6 M.length R (xl by_ R.seats i) ml) :: M)) k6_0 C s6_b0 n) =
      some (.exit 0, x6_0 (.ptr (some ⟨M.length, 4020, 9, 0⟩)) (.ptr (some ⟨M.length, 4024, 9, 0⟩)) (.ptr (some ⟨M.length, 8008, 9, 0⟩)), mk (K6 M.length R (xl by_ R.seats N) ml) :: M) := by
  induction j with
  | zero =>
    intro i n h hn
    obtain rfl : i = N := by omega
    rw [rnd0_some]
    conv => lhs; arg 2; arg 1; rw [s6_b0]
    by_cases hne : R.seats = [] <;> by_cases hne2 : R.mems = [] <;> simp [K6, jm, jc, sC, mC, rB, cB, rcells, hne, hne2]
  | succ j ih0 =>
    intro i n h hn
    obtain ⟨n, rfl⟩ : ∃ m, n = m + 1 := ⟨n - 1, by omega⟩
    have hi : i < N := by omega
    have hne : ¬ R.seats = [] := fun h0 => by rw [h0] at h1; simp at h1; omega
    have ih := ih0 (i + 1) n (by omega) (by omega)
    have hx1 := xl_nth by_ R.seats i (by omega)
    have hx2 := xl_set by_ R.seats i (by omega)
    have hx3 := xl_len by_ R.seats i
    have hxx : abin .xor (.int .i64 (nth R.seats i)) (.int .i64 by_) = some (.int .i64 (xi by_ (nth R.seats i))) := rfl
    have hlen : ((xl by_ R.seats i).map (AV.int .i64)).length = N := by rw [List.length_map, hx3, h1]
    rw [rnd0_some]
    conv => lhs; arg 2; arg 1; rw [s6_b0]
    simp only [K6, sC] at ih ⊢
    rw [← hx2] at ih
    generalize (xl by_ R.seats i).map (AV.int .i64) = CC at *
    have hx4 : ∀ h : i < CC.length, CC[i]'h = .int .i64 (nth R.seats i) := fun h => by
      rw [List.getElem?_eq_getElem h] at hx1; exact Option.some.inj hx1
    by_cases hne2 : R.mems = [] <;> simpa (disch := omega) [K6, jm, jc, sC, mC, rB, cB, rcells, hne, hne2, hi, h1, hx1, hx4, hxx, hlen, if_pos, IntWalk.i64_in] using ih

def ow (FF : List AV) : Nat → List AV
  | 0 => FF
  | i + 1 => (ow FF i).set (i * 3 + 1) (.str [111, 116, 104, 101, 114])
theorem ow_len (FF : List AV) : ∀ i, (ow FF i).length = FF.length
  | 0 => rfl
  | i + 1 => by rw [ow, List.length_set, ow_len FF i]

set_option maxHeartbeats 4000000 in
theorem l6b (C : Det.Calls) (M : Mem) (R : Rec) (sl : List Int) (N : Nat) (h1 : R.mems.length = N) (hN : N ≤ 20) (j : Nat) : ∀ (i n : Nat), i + j = N → j < n →
    fgt a6_1 (rnd0 (some (e6_1 (.ptr (some ⟨M.length, 4020, 9, 0⟩)) (.ptr (some ⟨M.length, 4024, 9, 0⟩)) (.ptr (some ⟨M.length, 8008, 9, 0⟩)) (.int .i64 N) (.int .i64 i), mk (K6 M.length R sl (ow (R.mems.flatMap mc) i)) :: M)) k6_1 C s6_b1 n) =
      some (.exit 2, x6_1 (.ptr (some ⟨M.length, 4020, 9, 0⟩)) (.ptr (some ⟨M.length, 4024, 9, 0⟩)), mk ((K6 M.length R sl (ow (R.mems.flatMap mc) N)).filter fun p => p.1 < 8000) :: M) := by
  have hml : (R.mems.flatMap mc).length = 3 * N := by rw [flat_len mc_len]; omega
  induction j with
  | zero =>
    intro i n h hn
    obtain rfl : i = N := by omega
    rw [rnd0_some]
    conv => lhs; arg 2; arg 1; rw [s6_b1]
    by_cases hne : R.seats = [] <;> by_cases hne2 : R.mems = [] <;> simp [K6, jm, jc, sC, mC, rB, cB, rcells, hne, hne2]
  | succ j ih0 =>
    intro i n h hn
    obtain ⟨n, rfl⟩ : ∃ m, n = m + 1 := ⟨n - 1, by omega⟩
    have hi : i < N := by omega
    have hne2 : ¬ R.mems = [] := fun h0 => by rw [h0] at h1; simp at h1; omega
    have ih := ih0 (i + 1) n (by omega) (by omega)
    have hlen := ow_len (R.mems.flatMap mc) i
    rw [hml] at hlen
    rw [ow] at ih
    rw [rnd0_some]
    conv => lhs; arg 2; arg 1; rw [s6_b1]
    generalize ow (R.mems.flatMap mc) i = CC at *
    by_cases hne : R.seats = [] <;> simpa (disch := omega) [K6, jm, jc, sC, mC, rB, cB, rcells, hne, hne2, hi, h1, hlen, if_pos, IntWalk.i64_in] using ih

end Go.Proofs.Ytaennaoaoahjmaa
