/-
  The record's law: a record is read: the loops over the seats and over the members.
-/
import Derived.Test.YtaennaoaoahjmaaC
import Derived.Test.YtaennaoaoahjmaaL
import Derived.Test.YtaennaoaoahjmaaLibKB
import Derived.Test.YtaennaoaoahjmaaE
set_option maxRecDepth 100000
set_option linter.unusedSimpArgs false
set_option linter.unusedVariables false
namespace Go.Proofs.Ytaennaoaoahjmaa
open Go.Det

theorem rnum_len' (r : K.Rd) : (K.rnum r).2.1.length ≤ r.1.length := K.rnum_len r
theorem rtext_len (r : K.Rd) : (K.rtext r).2.1.length ≤ r.1.length := by
  unfold K.rtext
  exact Nat.le_trans (K.rtake_len _ _) (K.rnum_len r)
theorem rbelow_len (b : Int) (r : K.Rd) : (K.rbelow b r).2.1.length ≤ r.1.length := by
  unfold K.rbelow
  have := K.rnum_len r
  split
  · split <;> exact this
  · exact this

theorem get_tp (s : Scope) (M : Mem) (d id : Nat) (X : Con) (i z o : Nat) : Det.get (s :: put M d id X) ⟨M.length, i, z, o⟩ = match s i with | some c => if c.size = z then some c else none | none => none := by
  have := Det.get_top s (put M d id X) i z o
  rwa [put_length] at this
theorem put_tp (s : Scope) (M : Mem) (d id : Nat) (X x : Con) (i : Nat) : put (s :: put M d id X) M.length i x = Det.setAt s i (some x) :: put M d id X := by
  have := put_top s (put M d id X) i x
  rwa [put_length] at this

/-- A member that is read. -/
def rm (r : K.Rd) : Mb × K.Rd := (⟨(K.rbelow 4 r).1, (K.rtext (K.rbelow 4 r).2).1, (K.rtext (K.rtext (K.rbelow 4 r).2).2).1⟩, (K.rtext (K.rtext (K.rbelow 4 r).2).2).2)
theorem rm_len (r : K.Rd) : (rm r).2.1.length ≤ r.1.length :=
  Nat.le_trans (rtext_len _) (Nat.le_trans (rtext_len _) (rbelow_len 4 r))

theorem below_e (k : Nat) (M : Mem) (d id : Nat) (r : K.Rd) (fl : Bool) (bound : Int) (hd : d < M.length) (hr : r.1.length < 2 ^ 48) (hg : ∀ o, get M ⟨d, id, 2, o⟩ = some (K.rc r fl)) :
    callFn SP (k + 5) 29 [.ptr (some ⟨d, id, 2, 0⟩), .int .i64 bound] M = some (.int .i64 (K.rbelow bound r).1, [], put M d id (K.rc (K.rbelow bound r).2 fl)) :=
  K.below_ev (SP := SP) (n26 := 28) (n30 := 29) (n40 := 38) (n41 := 37) (n43 := 42) (n44 := 43) rfl rfl rfl rfl rfl rfl k M d id r fl bound hd hr hg
theorem num_e (k : Nat) (M : Mem) (d id : Nat) (r : K.Rd) (fl : Bool) (hd : d < M.length) (hr : r.1.length < 2 ^ 48) (hg : ∀ o, get M ⟨d, id, 2, o⟩ = some (K.rc r fl)) :
    callFn SP (k + 4) 28 [.ptr (some ⟨d, id, 2, 0⟩)] M = some (u64 (K.rnum r).1, [], put M d id (K.rc (K.rnum r).2 fl)) :=
  K.rnum_ev (SP := SP) (n26 := 28) (n40 := 38) (n41 := 37) (n43 := 42) (n44 := 43) rfl rfl rfl rfl rfl k M d id r fl hd hr hg
theorem text_e (k : Nat) (M : Mem) (d id : Nat) (r : K.Rd) (fl : Bool) (hd : d < M.length) (hr : r.1.length < 2 ^ 48) (hg : ∀ o, get M ⟨d, id, 2, o⟩ = some (K.rc r fl)) :
    callFn SP (k + 5) 39 [.ptr (some ⟨d, id, 2, 0⟩)] M = some (.str (K.rtext r).1, [], put M d id (K.rc (K.rtext r).2 fl)) :=
  K.rtext_ev (SP := SP) (n25 := 39) (n26 := 28) (n40 := 38) (n41 := 37) (n43 := 42) (n44 := 43) rfl rfl rfl rfl rfl rfl k M d id r fl hd hr hg

set_option maxHeartbeats 2000000 in
theorem member_ev (k : Nat) (M : Mem) (d id : Nat) (r : K.Rd) (fl : Bool) (hd : d < M.length) (hr : r.1.length < 2 ^ 48) (hg : ∀ o, get M ⟨d, id, 2, o⟩ = some (K.rc r fl)) :
    callFn SP (k + 6) 30 [.ptr (some ⟨d, id, 2, 0⟩)] M = some (.agg (mc (rm r).1), [], put M d id (K.rc (rm r).2 fl)) := by
  have hn1 : d ≠ M.length := by omega
  have h1 := fun s => below_e k (s :: M) d id r fl 4 (by simp; omega) hr (fun o => by rw [get_low (by exact hd)]; exact hg o)
  have l1 := rbelow_len 4 r
  have h2 := fun s => text_e k (s :: put M d id (K.rc (K.rbelow 4 r).2 fl)) d id (K.rbelow 4 r).2 fl (by rw [List.length_cons, put_length]; omega) (by omega) (fun o => by rw [get_sput hd]; exact if_pos rfl)
  have l2 := rtext_len (K.rbelow 4 r).2
  have h3 := fun s => text_e k (s :: put M d id (K.rc (K.rtext (K.rbelow 4 r).2).2 fl)) d id (K.rtext (K.rbelow 4 r).2).2 fl (by rw [List.length_cons, put_length]; omega) (by omega) (fun o => by rw [get_sput hd]; exact if_pos rfl)
  simp only [put_low hd, put_sput hd] at h1 h2 h3
  rw [call_fn (f := 30) (by rfl) (by simp)]
  simp (disch := omega) [h1, h2, h3, rm, mc, get_tp, put_tp]

end Go.Proofs.Ytaennaoaoahjmaa

namespace Go.Proofs.Ytaennaoaoahjmaa
open Go.Det

def rseats : Nat → K.Rd → List Int × K.Rd
  | 0, r => ([], r)
  | n + 1, r => ((K.rbelow 12 r).1 :: (rseats n (K.rbelow 12 r).2).1, (rseats n (K.rbelow 12 r).2).2)
def rmems : Nat → K.Rd → List Mb × K.Rd
  | 0, r => ([], r)
  | n + 1, r => ((rm r).1 :: (rmems n (rm r).2).1, (rmems n (rm r).2).2)

theorem rseats_len : ∀ (n : Nat) (r : K.Rd), (rseats n r).2.1.length ≤ r.1.length
  | 0, r => Nat.le_refl _
  | n + 1, r => Nat.le_trans (rseats_len n _) (rbelow_len 12 r)
theorem rmems_len : ∀ (n : Nat) (r : K.Rd), (rmems n r).2.1.length ≤ r.1.length
  | 0, r => Nat.le_refl _
  | n + 1, r => Nat.le_trans (rmems_len n _) (rm_len r)
theorem rseats_n : ∀ (n : Nat) (r : K.Rd), (rseats n r).1.length = n
  | 0, r => rfl
  | n + 1, r => by simp [rseats, rseats_n n]
theorem rmems_n : ∀ (n : Nat) (r : K.Rd), (rmems n r).1.length = n
  | 0, r => rfl
  | n + 1, r => by simp [rmems, rmems_n n]

/-- The seats that were read; the block they lie in. -/
def sW (D : Nat) (l : List Int) : AV := if l = [] then .slice none 0 0 else .slice (some ⟨D, 52020, l.length, 0⟩) l.length 1
def sB (l : List Int) : List (Nat × Con) := if l = [] then [] else [(52020, .cells (l.map (AV.int .i64)) true true)]

def rdC (r : K.Rd) : Con := .cells [.str r.1, .int .i64 r.2] true true

/-- The scope of Get, under way. -/
def L13 (D : Nat) (r : Rec) (S : List Int) (Ms : List Mb) (rd : K.Rd) : List (Nat × Con) :=
  (8000, rC r (sW D S) (mV D 68020 Ms)) :: (0, z9) :: (4004, rdC rd) :: (sB S ++ mB 68020 Ms)

/-- A call that reads, in the scope of Get. -/
theorem below_at (k : Nat) (M : Mem) (b : Int) (r : K.Rd) (hr : r.1.length < 2 ^ 48) : ∀ l, mk l 4004 = some (rdC r) →
    callFn SP (k + 5) 29 [.ptr (some ⟨M.length, 4004, 2, 0⟩), .int .i64 b] (mk l :: M) = some (.int .i64 (K.rbelow b r).1, [], mk (ups 4004 (rdC (K.rbelow b r).2) l) :: M) := by
  intro l h
  have := below_e k (mk l :: M) M.length 4004 r true b (by simp) hr (fun o => by rw [get_top, h]; rfl)
  rwa [put_top, setAt_mk] at this
theorem num_at (k : Nat) (M : Mem) (r : K.Rd) (hr : r.1.length < 2 ^ 48) : ∀ l, mk l 4004 = some (rdC r) →
    callFn SP (k + 4) 28 [.ptr (some ⟨M.length, 4004, 2, 0⟩)] (mk l :: M) = some (u64 (K.rnum r).1, [], mk (ups 4004 (rdC (K.rnum r).2) l) :: M) := by
  intro l h
  have := num_e k (mk l :: M) M.length 4004 r true (by simp) hr (fun o => by rw [get_top, h]; rfl)
  rwa [put_top, setAt_mk] at this
theorem member_at (k : Nat) (M : Mem) (r : K.Rd) (hr : r.1.length < 2 ^ 48) : ∀ l, mk l 4004 = some (rdC r) →
    callFn SP (k + 6) 30 [.ptr (some ⟨M.length, 4004, 2, 0⟩)] (mk l :: M) = some (.agg (mc (rm r).1), [], mk (ups 4004 (rdC (rm r).2) l) :: M) := by
  intro l h
  have := member_ev k (mk l :: M) M.length 4004 r true (by simp) hr (fun o => by rw [get_top, h]; rfl)
  rwa [put_top, setAt_mk] at this

set_option maxHeartbeats 2000000 in
theorem l13a (k : Nat) (M : Mem) (r : Rec) (N : Nat) (hN : N < 2 ^ 30) (j : Nat) : ∀ (i n : Nat) (S : List Int) (rd : K.Rd), S.length = i → rd.1.length < 2 ^ 48 → i + j = N → j < n →
    fgt a13_1 (rnd0 (some (e13_1 (P0 M 0) (.ptr (some ⟨M.length, 4004, 2, 0⟩)) (.ptr (some ⟨M.length, 8000, 9, 0⟩)) (.int .i64 N) (.int .i64 i), mk (L13 M.length r S [] rd) :: M)) k13_1 (callFn SP (k + 5)) s13_b1 n) =
      some (.exit 2, x13_1 (P0 M 0) (.ptr (some ⟨M.length, 4004, 2, 0⟩)) (.ptr (some ⟨M.length, 8000, 9, 0⟩)), mk (L13 M.length r (S ++ (rseats j rd).1) [] (rseats j rd).2) :: M) := by
  induction j with
  | zero =>
    intro i n S rd hS hr h hn
    obtain rfl : i = N := by omega
    rw [rnd0_some]
    conv => lhs; arg 2; arg 1; rw [s13_b1]
    simp only [rseats, List.append_nil]
    by_cases hs : S = []
    · simp [L13, P0, z9, rC, rcells, sW, sB, mV, mB, hs, rdC]
    · simp [L13, P0, z9, rC, rcells, sW, sB, mV, mB, hs, rdC]
  | succ j ih0 =>
    intro i n S rd hS hr h hn
    obtain ⟨n, rfl⟩ : ∃ m, n = m + 1 := ⟨n - 1, by omega⟩
    have hi : i < N := by omega
    have ih := ih0 (i + 1) n (S ++ [(K.rbelow 12 rd).1]) (K.rbelow 12 rd).2 (by simp [hS]) (Nat.lt_of_le_of_lt (rbelow_len 12 rd) hr) (by omega) (by omega)
    have hb := below_at k M 12 rd hr
    rw [List.append_assoc, List.singleton_append] at ih
    simp only [rseats]
    generalize (rseats j (K.rbelow 12 rd).2).1 = SS at ih ⊢
    generalize (rseats j (K.rbelow 12 rd).2).2 = RR at ih ⊢
    generalize K.rbelow 12 rd = q at *
    obtain ⟨x, rd'⟩ := q
    simp only at ih hb ⊢
    rw [rnd0_some]
    conv => lhs; arg 2; arg 1; rw [s13_b1]
    generalize hR : mk (L13 M.length r (S ++ x :: SS) [] RR) = RM at ih ⊢
    by_cases hs : S = []
    · subst hs
      simp only [List.length_nil] at hS
      subst hS
      simp only [rdC] at hb ih ⊢
      simpa (disch := first | omega | (simp; done) | (simp; omega)) [hi, hb, if_pos, IntWalk.i64_in, L13, P0, z9, rC, rcells, sW, sB, mV, mB, rdC] using ih
    · subst hS
      simp only [rdC] at hb ih ⊢
      simpa (disch := first | omega | (simp; done) | (simp; omega)) [hi, hb, if_pos, IntWalk.i64_in, L13, P0, z9, rC, rcells, sW, sB, mV, mB, rdC, hs] using ih

set_option maxHeartbeats 2000000 in
theorem l13b (k : Nat) (M : Mem) (r : Rec) (S : List Int) (N : Nat) (hN : N < 2 ^ 30) (j : Nat) : ∀ (i n : Nat) (Ms : List Mb) (rd : K.Rd), Ms.length = i → rd.1.length < 2 ^ 48 → i + j = N → j < n →
    fgt a13_2 (rnd0 (some (e13_2 (P0 M 0) (.ptr (some ⟨M.length, 4004, 2, 0⟩)) (.ptr (some ⟨M.length, 8000, 9, 0⟩)) (.int .i64 N) (.int .i64 i), mk (L13 M.length r S Ms rd) :: M)) k13_2 (callFn SP (k + 6)) s13_b2 n) =
      some (.exit 4, x13_2 (P0 M 0) (.ptr (some ⟨M.length, 4004, 2, 0⟩)) (.ptr (some ⟨M.length, 8000, 9, 0⟩)), mk (L13 M.length r S (Ms ++ (rmems j rd).1) (rmems j rd).2) :: M) := by
  induction j with
  | zero =>
    intro i n Ms rd hS hr h hn
    obtain rfl : i = N := by omega
    rw [rnd0_some]
    conv => lhs; arg 2; arg 1; rw [s13_b2]
    simp only [rmems, List.append_nil]
    by_cases hs : S = [] <;> by_cases hm : Ms = []
    · simp [L13, P0, z9, rC, rcells, sW, sB, mV, mB, hs, hm, rdC]
    · simp [L13, P0, z9, rC, rcells, sW, sB, mV, mB, hs, hm, rdC]
    · simp [L13, P0, z9, rC, rcells, sW, sB, mV, mB, hs, hm, rdC]
    · simp [L13, P0, z9, rC, rcells, sW, sB, mV, mB, hs, hm, rdC]
  | succ j ih0 =>
    intro i n Ms rd hS hr h hn
    obtain ⟨n, rfl⟩ : ∃ m, n = m + 1 := ⟨n - 1, by omega⟩
    have hi : i < N := by omega
    have ih := ih0 (i + 1) n (Ms ++ [(rm rd).1]) (rm rd).2 (by simp [hS]) (Nat.lt_of_le_of_lt (rm_len rd) hr) (by omega) (by omega)
    have hb := member_at k M rd hr
    rw [List.append_assoc, List.singleton_append] at ih
    simp only [rmems]
    generalize (rmems j (rm rd).2).1 = SS at ih ⊢
    generalize (rmems j (rm rd).2).2 = RR at ih ⊢
    generalize rm rd = q at *
    obtain ⟨x, rd'⟩ := q
    simp only at ih hb ⊢
    rw [rnd0_some]
    conv => lhs; arg 2; arg 1; rw [s13_b2]
    generalize hR : mk (L13 M.length r S (Ms ++ x :: SS) RR) = RM at ih ⊢
    have hml : (Ms.flatMap mc).length = 3 * Ms.length := by rw [flat_len mc_len]; omega
    have hfa : (Ms ++ [x]).flatMap mc = Ms.flatMap mc ++ mc x := by simp
    have hne : Ms ++ [x] ≠ [] := by simp
    clear hR
    by_cases hs : S = [] <;> by_cases hm : Ms = []
    · subst hs hm
      simp only [List.length_nil] at hS
      subst hS
      simp only [rdC] at hb ih ⊢
      simpa (disch := first | omega | (simp; done) | (simp; omega)) [hi, hb, if_pos, IntWalk.i64_in, L13, P0, z9, rC, rcells, sW, sB, mV, mB, mc, rep, rdC] using ih
    · subst hs hS
      simp only [rdC] at hb ih ⊢
      generalize hFF : Ms.flatMap mc = FF at *
      simpa (disch := first | omega | (simp; done) | (simp; omega)) [-List.flatMap_append, hi, hb, if_pos, IntWalk.i64_in, L13, P0, z9, rC, rcells, sW, sB, mV, mB, mc, rep, rdC, hm, hFF, hml, hfa, Nat.mul_add] using ih
    · subst hm
      simp only [List.length_nil] at hS
      subst hS
      simp only [rdC] at hb ih ⊢
      simpa (disch := first | omega | (simp; done) | (simp; omega)) [hi, hb, if_pos, IntWalk.i64_in, L13, P0, z9, rC, rcells, sW, sB, mV, mB, mc, rep, rdC, hs] using ih
    · subst hS
      simp only [rdC] at hb ih ⊢
      generalize hFF : Ms.flatMap mc = FF at *
      simpa (disch := first | omega | (simp; done) | (simp; omega)) [-List.flatMap_append, hi, hb, if_pos, IntWalk.i64_in, L13, P0, z9, rC, rcells, sW, sB, mV, mB, mc, rep, rdC, hs, hm, hFF, hml, hfa, Nat.mul_add] using ih

end Go.Proofs.Ytaennaoaoahjmaa
