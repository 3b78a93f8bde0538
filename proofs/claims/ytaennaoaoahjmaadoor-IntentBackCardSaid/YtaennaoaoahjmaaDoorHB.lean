/-
  The log's law: which writes may be logged, the cells of a log, its digest: the program's.
-/
import Derived.Test.YtaennaoaoahjmaaDoorHA
set_option maxRecDepth 100000
set_option linter.unusedSimpArgs false
set_option linter.unusedVariables false
namespace Go.Proofs.YtaennaoaoahjmaaDoor
open Go.Det Go.Det.S

/-- A write: its place, its bytes. -/
structure Wr where
  at_ : Int
  cell : List UInt8
  deriving Inhabited, DecidableEq
def wc (w : Wr) : List AV := [.int .i64 w.at_, .str w.cell]
theorem wc_len (w : Wr) : (wc w).length = 2 := rfl

def mayE (w : Wr) : Int := if w.at_ < 100 ∨ 140 ≤ w.at_ then 2 else if 2032 < w.cell.length then 5 else 0
def wT (w : Wr) : List UInt8 := b8 w.at_ ++ et w.cell
/-- The first error. -/
def pgo : List Wr → Option Int
  | [] => none
  | w :: l => if mayE w = 0 then pgo l else some (mayE w)
/-- The cells ahead of it. -/
def pcs : List Wr → List (List UInt8)
  | [] => []
  | w :: l => if mayE w = 0 then wT w :: pcs l else []
theorem pcs_all : ∀ l, pgo l = none → pcs l = l.map wT
  | [], _ => rfl
  | w :: l, h => by
    simp only [pgo, pcs] at h ⊢
    by_cases hw : mayE w = 0
    · rw [if_pos hw] at h ⊢
      rw [pcs_all l h]; rfl
    · rw [if_neg hw] at h; cases h
theorem may_cell {w : Wr} (h : mayE w = 0) : w.cell.length ≤ 2032 ∧ 100 ≤ w.at_ ∧ w.at_ < 140 := by
  unfold mayE at h
  split at h
  · cases h
  · split at h
    · cases h
    · omega
theorem pgo_all : ∀ l, pgo l = none → ∀ w ∈ l, mayE w = 0
  | [], _, w, hw => by cases hw
  | x :: l, h, w, hw => by
    simp only [pgo] at h
    by_cases hx : mayE x = 0
    · rw [if_pos hx] at h
      rcases List.mem_cons.1 hw with rfl | hw
      · exact hx
      · exact pgo_all l h w hw
    · rw [if_neg hx] at h; cases h

theorem may_ev (k : Nat) (M : Mem) (w : Wr) : callFn SP (k + 1) 34 [.agg (wc w)] M = some (.int .i64 (mayE w), [], M) := by
  obtain ⟨a, c⟩ := w
  rw [call_fn (f := 34) (by rfl) (by simp)]
  simp only [wc, mayE]
  by_cases c1 : a < 100
  · simp [c1]
  by_cases c2 : 140 ≤ a
  · simp [c1, c2]
  by_cases c3 : 2032 < c.length
  · have c3' : (2032 : Int) < c.length := by omega
    simp [c1, c2, c3, c3']
  · have c3' : ¬ (2032 : Int) < c.length := by omega
    simp [c1, c2, c3, c3']

def oV (D id : Nat) (l : List (List UInt8)) : AV := .slice (some ⟨D, id, l.length, 0⟩) l.length 1
def oC (l : List (List UInt8)) : Con := .cells (l.map AV.str) true true

def r16 (M : Mem) (o : List (List UInt8)) : Option Int → Option (Ex × Env × Mem)
  | some e => some (.ret, x16_0 (.slice none 0 0) (.str []) (.int .i64 e) (oV M.length 12016 o), mk [(12016, oC o)] :: M)
  | none => some (.exit 0, x16_0 .dead .dead .dead (oV M.length 12016 o), mk [(12016, oC o)] :: M)

set_option maxHeartbeats 4000000 in
theorem l16 (k : Nat) (M : Mem) (v : AV) (l : List Wr) (N : Nat) (h1 : l.length = N) (hN : N < 100) (hv : WM M 2 wc v l) (j : Nat) : ∀ (i n : Nat) (o : List (List UInt8)), i + j = N → j < n → o.length = i + 1 →
    fgt a16_0 (rnd0 (some (e16_0 (oV M.length 12016 o) v (.int .i64 N) (.int .i64 i), mk [(12016, oC o)] :: M)) k16_0 (callFn SP (k + 3)) s16_b0 n) =
      r16 M (o ++ pcs (l.drop i)) (pgo (l.drop i)) := by
  have i1 := WM_ids hv
  induction j with
  | zero =>
    intro i n o h hn ho
    obtain rfl : i = N := by omega
    rw [rnd0_some, List.drop_of_length_le (by omega)]
    conv => lhs; arg 2; arg 1; rw [s16_b0]
    simp [oV, oC, r16, pcs, pgo, i1]
  | succ j ih0 =>
    intro i n o h hn ho
    obtain ⟨n, rfl⟩ : ∃ m, n = m + 1 := ⟨n - 1, by omega⟩
    have hi : i < N := by omega
    obtain ⟨d, id, z, rw_, fl, r, hvv, hd, hg⟩ := hv.block (by omega)
    subst hvv
    have sa := flat_seg wc_len r l i (by omega)
    have la : i * 2 + 2 ≤ (l.flatMap wc ++ r).length := by rw [List.length_append, flat_len wc_len]; omega
    have hn1 : d ≠ M.length := by omega
    rw [drop_nth l i (by omega)]
    have ih := ih0 (i + 1) n (o ++ [wT (nth l i)]) (by omega) (by omega) (by simp; omega)
    clear ih0 hv
    simp only [pgo, pcs]
    generalize l.drop (i + 1) = rest at *
    generalize l.flatMap wc ++ r = BA at sa la hg
    generalize nth l i = w at *
    have hm := fun L => may_ev (k + 2) (mk L :: ro M) w
    have hc := @may_cell w
    generalize hE : mayE w = E at *
    obtain ⟨a, c⟩ := w
    simp only [wc, wT] at sa ih hm hc ⊢
    have hlt : (i : Int) < N := by omega
    have hnum := fun L => num_e (k + 1) (mk L :: ro M) (BitVec.ofInt 64 a)
    have wi : IntKind.wrap .i64 ((i : Int) + 1) = (i : Int) + 1 := IntWalk.i64_in _ (by omega)
    rw [rnd0_some]
    conv => lhs; arg 2; arg 1; rw [s16_b0]
    by_cases he : E = 0
    · have hc := (hc he).1
      have htx := fun L => text_e k (mk L :: ro M) c (by omega)
      have hl8 := K.be8_len (BitVec.ofInt 64 a)
      have hlc := et_len c
      subst he
      simp only [if_true, b8] at ih ⊢
      generalize K.be8 (BitVec.ofInt 64 a) = A at *
      generalize et c = C at *
      rw [show o ++ (A ++ C) :: pcs rest = o ++ [A ++ C] ++ pcs rest by simp]
      generalize hR : r16 M (o ++ [A ++ C] ++ pcs rest) (pgo rest) = RR at *
      clear hR
      have hlen : (o ++ [A ++ C]).length = o.length + 1 := by simp
      have hmap : (o ++ [A ++ C]).map AV.str = o.map AV.str ++ [AV.str (A ++ C)] := by simp
      simp only [oV, oC, hlen, hmap] at ih
      simp only [oV, oC]
      have hml : (o.map AV.str).length = o.length := List.length_map _
      have hlim : (o.length + 1) * 16 ≤ 35184372088832 ∧ o.length ≤ 35184372088831 := by omega
      have hac : A.length + C.length ≤ 4611686018427387904 := by omega
      generalize o.map AV.str = OM at *
      generalize o.length = OL at *
      simpa [hi, hlt, get_low, hd, hg, sa, la, h1, hn1, wi, oV, oC, i1, hm, hnum, htx, hml, hlim, hac] using ih
    · simp only [if_neg he, List.append_nil]
      simp [hi, hlt, get_low, hd, hg, sa, la, h1, hn1, wi, oV, oC, i1, hm, he, r16]

end Go.Proofs.YtaennaoaoahjmaaDoor
