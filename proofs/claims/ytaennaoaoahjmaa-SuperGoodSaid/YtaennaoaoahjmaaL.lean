/-
  The record's law: a record's bytes: the program's two loops, through a strings.Builder.
-/
import Derived.Test.YtaennaoaoahjmaaE
import Derived.Test.YtaennaoaoahjmaaLibK
set_option maxRecDepth 100000
set_option linter.unusedSimpArgs false
set_option linter.unusedVariables false
namespace Go.Proofs.Ytaennaoaoahjmaa
open Go.Det

/-- A number as eight bytes. -/
abbrev b8 (n : Int) : List UInt8 := K.be8 (BitVec.ofInt 64 n)
/-- A text, its length ahead. -/
def et (s : List UInt8) : List UInt8 := K.be8 (BitVec.ofNat 64 s.length) ++ s

theorem num_ev (k : Nat) (M : Mem) (n : BitVec 64) : callFn SP (k + 2) 17 [u64 n] M = some (.str (K.be8 n), [], M) :=
  K.num_ev (SP := SP) (n20 := 17) (n38 := 35) rfl rfl k M n
theorem text_ev (k : Nat) (M : Mem) (s : List UInt8) (hs : s.length < 2 ^ 48) : callFn SP (k + 3) 19 [.str s] M = some (.str (et s), [], M) :=
  K.text_ev (SP := SP) (n20 := 17) (n22 := 19) (n38 := 35) rfl rfl rfl k M s hs

def nums (l : List Int) : List UInt8 := (l.map b8).flatten
def mT (m : Mb) : List UInt8 := b8 m.st ++ et m.top ++ et m.log
def mTs (l : List Mb) : List UInt8 := (l.map mT).flatten

theorem nums_len (l : List Int) : (nums l).length = 8 * l.length := by
  induction l with
  | nil => rfl
  | cons x l ih => simp only [nums, List.map_cons, List.flatten_cons, List.length_append, List.length_cons] at ih ⊢; rw [ih, K.be8_len]; omega

/-- The builder, its buffer. -/
def bB (D : Nat) (id : Nat) (t : List UInt8) : Con := .bld 58 (.slice (some ⟨D, id, t.length, 0⟩) t.length 1) true
def bV (D : Nat) : AV := .ptr (some ⟨D, 12000, 2, 0⟩)
def wV (D : Nat) : AV := .func 16 [bV D] []

set_option maxHeartbeats 8000000 in
theorem l8a (k : Nat) (M : Mem) (a : Rec) (sa ma : AV) (fa : Bool) (i1 : AV.ids M.length sa = []) (i2 : AV.ids M.length ma = []) (L : List Int) (id z : Nat) (N : Nat) (h1 : L.length = N) (hz : z = N) (hN : N < 100) (hid : id = 24056) (j : Nat) : ∀ (i n : Nat) (t : List UInt8), i + j = N → j < n → 0 < t.length → t.length + 8 * j < 2 ^ 40 →
    fgt a8_0 (rnd0 (some (e8_0 (P0 M 0) (bV M.length) (wV M.length) (.slice (some ⟨M.length, id, z, 0⟩) N 1) (.int .i64 N) (.int .i64 i), mk [(id, .cells (L.map (AV.int .i64)) true true), (0, .cells (rcells a sa ma) true fa), (12000, bB M.length 20032 t), (20032, .buf 5 t true)] :: M)) k8_0 (callFn SP (k + 2)) s8_b0 n) =
      some (.exit 0, x8_0 (P0 M 0) (bV M.length) (wV M.length), mk [(0, .cells (rcells a sa ma) true fa), (12000, bB M.length 20032 (t ++ nums (L.drop i))), (20032, .buf 5 (t ++ nums (L.drop i)) true)] :: M) := by
  subst hid
  induction j with
  | zero =>
    intro i n t h hn ht hb
    obtain rfl : i = N := by omega
    rw [rnd0_some, List.drop_of_length_le (by omega)]
    conv => lhs; arg 2; arg 1; rw [s8_b0]
    simp [P0, bV, wV, bB, rcells, nums, i1, i2]
  | succ j ih0 =>
    intro i n t h hn ht hb
    obtain ⟨n, rfl⟩ : ∃ m, n = m + 1 := ⟨n - 1, by omega⟩
    have hi : i < N := by omega
    have ga := map_app_get (AV.int .i64) L [] i (by omega)
    rw [List.append_nil] at ga
    have e0 : t ++ nums (L.drop i) = t ++ b8 (nth L i) ++ nums (L.drop (i + 1)) := by rw [drop_nth L i (by omega)]; simp [nums]
    rw [e0]
    have hl8 := K.be8_len (BitVec.ofInt 64 (nth L i))
    have ih := ih0 (i + 1) n (t ++ b8 (nth L i)) (by omega) (by omega) (by rw [List.length_append]; omega) (by rw [List.length_append]; simp only [b8]; omega)
    have hnum := fun l => num_ev k (mk l :: ro M) (BitVec.ofInt 64 (nth L i))
    have hcv : aconv .u64 (.int .i64 (nth L i)) = some (u64 (BitVec.ofInt 64 (nth L i))) := by simp
    generalize nth L i = x at *
    generalize hBt : K.be8 (BitVec.ofInt 64 x) = bt at *
    simp only [b8, hBt] at ih ⊢
    generalize nums (L.drop (i + 1)) = rest at *
    have hll : (L.map (AV.int .i64)).length = N := by rw [List.length_map, h1]
    generalize L.map (AV.int .i64) = CC at *
    have ga4 : ∀ h : i < CC.length, CC[i]'h = .int .i64 x := fun h => by
      rw [List.getElem?_eq_getElem h] at ga; exact Option.some.inj ga
    have htne : ¬ t.length = 0 := by omega
    rw [rnd0_some]
    conv => lhs; arg 2; arg 1; rw [s8_b0]
    simpa (disch := omega) [hi, ga, ga4, h1, hz, hll, if_pos, IntWalk.i64_in, P0, bV, wV, bB, rcells, i1, i2, hnum, hcv, hl8, ht, htne] using ih

end Go.Proofs.Ytaennaoaoahjmaa
