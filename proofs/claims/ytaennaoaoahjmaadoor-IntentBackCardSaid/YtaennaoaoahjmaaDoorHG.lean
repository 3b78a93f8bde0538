/-
  The log's law: writes as plain data.
-/
import Derived.Test.YtaennaoaoahjmaaDoorHF
set_option maxRecDepth 100000
set_option linter.unusedSimpArgs false
set_option linter.unusedVariables false
namespace Go.Proofs.YtaennaoaoahjmaaDoor
open Go.Det Go.Det.S

/-- A write as plain data. -/
structure Pl where
  at_ : Int
  long : Int
  cell : List UInt8
  deriving Inhabited
def pc (p : Pl) : List AV := [.int .i64 p.at_, .int .i64 p.long, .str p.cell]
theorem pc_len (p : Pl) : (pc p).length = 3 := rfl

def itr (s : List UInt8) : Nat → List UInt8 → List UInt8
  | 0, t => t
  | j + 1, t => itr s j (t ++ s)
theorem itr_len (s : List UInt8) : ∀ j t, (itr s j t).length = t.length + j * s.length
  | 0, t => by simp [itr]
  | j + 1, t => by rw [itr, itr_len s j, List.length_append, Nat.add_mul]; omega

def tms (p : Pl) : Nat := ((max 0 p.long).tmod 22).toNat
theorem tms_eq (p : Pl) : (max 0 p.long).tmod 22 = (tms p : Int) ∧ tms p < 22 := by
  unfold tms
  rw [Int.tmod_eq_emod_of_nonneg (by omega)]
  omega
def wOf (p : Pl) : Wr := ⟨p.at_, itr (p.cell.take (min p.cell.length 200)) (tms p) (p.cell.take (min p.cell.length 200))⟩
theorem wOf_len (p : Pl) : (wOf p).cell.length ≤ 4400 := by
  have h := (tms_eq p).2
  have hl : (p.cell.take (min p.cell.length 200)).length ≤ 200 := by rw [List.length_take]; omega
  show (itr _ _ _).length ≤ 4400
  rw [itr_len]
  have : tms p * (p.cell.take (min p.cell.length 200)).length ≤ 21 * 200 := Nat.mul_le_mul (by omega) hl
  omega

def pV (D id : Nat) (o : List Wr) : AV := if o = [] then .slice none 0 0 else .slice (some ⟨D, id, 2 * o.length, 0⟩) o.length 2
def pB (o : List Wr) : List (Nat × Con) := if o = [] then [] else [(48024, .cells (o.flatMap wc) true true), (48052, .cells (o.flatMap wc) true true)]
def pX (p : Pl) : Nat × Con := (20008, .cells (pc p) true true)
def pP (D : Nat) : AV := .ptr (some ⟨D, 20008, 3, 0⟩)

theorem l15b (C : Det.Calls) (M : Mem) (v : AV) (hv : AV.ids M.length v = []) (o : List Wr) (p : Pl) (s : List UInt8) (hs : s.length ≤ 200) (N : Nat) (hN : N < 22) (a15 a16 : Int) (j : Nat) : ∀ (i n : Nat) (t : List UInt8), i + j = N → j < n → t.length ≤ 200 * (i + 1) →
    fgt a15_1 (rnd0 (some (e15_1 (pV M.length 48024 o) (pV M.length 48052 o) (pP M.length) (.str s) (.str t) v (.int .i64 a15) (.int .i64 a16) (.int .i64 N) (.int .i64 i), mk (pB o ++ [pX p]) :: M)) k15_1 C s15_b1 n) =
      some (.exit 2, x15_1 (pV M.length 48024 o) (pV M.length 48052 o) (pP M.length) (.str (itr s j t)) v (.int .i64 a15) (.int .i64 a16), mk (pB o ++ [pX p]) :: M) := by
  induction j with
  | zero =>
    intro i n t h hn ht
    obtain rfl : i = N := by omega
    rw [rnd0_some]
    conv => lhs; arg 2; arg 1; rw [s15_b1]
    by_cases h0 : o = []
    · simp [pV, pB, pX, pP, pc, itr, hv, h0]
    · generalize o.flatMap wc = FF
      simp [pV, pB, pX, pP, pc, itr, hv, h0]
  | succ j ih0 =>
    intro i n t h hn ht
    obtain ⟨n, rfl⟩ : ∃ m, n = m + 1 := ⟨n - 1, by omega⟩
    have ih := ih0 (i + 1) n (t ++ s) (by omega) (by omega) (by rw [List.length_append]; omega)
    have hlt : (i : Int) < N := by omega
    have wi : IntKind.wrap .i64 ((i : Int) + 1) = (i : Int) + 1 := IntWalk.i64_in _ (by omega)
    have hlim : t.length + s.length ≤ 4611686018427387904 := by omega
    rw [rnd0_some]
    conv => lhs; arg 2; arg 1; rw [s15_b1]
    simp only [itr]
    generalize hR : some (Ex.exit 2, x15_1 _ _ _ _ _ _ _, _) = RR at ih ⊢
    clear hR
    by_cases h0 : o = []
    · simp only [pV, pB, if_pos h0] at ih ⊢
      simpa [pX, pP, pc, hv, hlt, wi, hlim] using ih
    · simp only [pV, pB, if_neg h0] at ih ⊢
      generalize o.flatMap wc = FF at *
      simpa [pX, pP, pc, hv, hlt, wi, hlim] using ih

set_option maxHeartbeats 4000000 in
theorem l15a (C : Det.Calls) (M : Mem) (v : AV) (l : List Pl) (N : Nat) (h1 : l.length = N) (hN : N ≤ 120) (hv : WM M 3 pc v l) (j : Nat) : ∀ (i n : Nat) (o : List Wr), i + j = N → j < n → o.length = i →
    fgt a15_0 (rnd0 (some (e15_0 (pV M.length 48024 o) (pV M.length 48052 o) v (.int .i64 N) (.int .i64 i), mk (pB o) :: M)) k15_0 C s15_b0 n) =
      some (.exit 0, x15_0 (pV M.length 48024 (o ++ (l.drop i).map wOf)) (pV M.length 48052 (o ++ (l.drop i).map wOf)), mk (pB (o ++ (l.drop i).map wOf)) :: M) := by
  have i1 := WM_ids hv
  induction j with
  | zero =>
    intro i n o h hn ho
    obtain rfl : i = N := by omega
    rw [rnd0_some, List.drop_of_length_le (by omega), List.map_nil, List.append_nil]
    conv => lhs; arg 2; arg 1; rw [s15_b0]
    by_cases h0 : o = []
    · simp [pV, pB, i1, h0]
    · generalize o.flatMap wc = FF
      simp [pV, pB, i1, h0]
  | succ j ih0 =>
    intro i n o h hn ho
    obtain ⟨n, rfl⟩ : ∃ m, n = m + 1 := ⟨n - 1, by omega⟩
    have hi : i < N := by omega
    obtain ⟨d, id, z, rw_, fl, r, hvv, hd, hg⟩ := hv.block (by omega)
    subst hvv
    have sa := flat_seg pc_len r l i (by omega)
    have la : i * 3 + 3 ≤ (l.flatMap pc ++ r).length := by rw [List.length_append, flat_len pc_len]; omega
    have hn1 : d ≠ M.length := by omega
    rw [drop_nth l i (by omega), List.map_cons]
    have ih := ih0 (i + 1) n (o ++ [wOf (nth l i)]) (by omega) (by omega) (by simp [ho])
    clear ih0 hv
    generalize (l.drop (i + 1)).map wOf = rest at *
    generalize l.flatMap pc ++ r = BA at sa la hg
    rw [show o ++ wOf (nth l i) :: rest = o ++ [wOf (nth l i)] ++ rest by simp]
    generalize hp : nth l i = p at *
    clear hp
    have htm := tms_eq p
    have hls : (p.cell.take (min p.cell.length 200)).length ≤ 200 := by rw [List.length_take]; omega
    have hin := l15b C M (.slice (some ⟨d, id, z, 0⟩) N 3) (by simp [hn1]) o p (p.cell.take (min p.cell.length 200)) hls (tms p) htm.2 N i (tms p) 0 (tms p + 1) (p.cell.take (min p.cell.length 200)) (by omega) (by omega) (by omega)
    have hwo : wOf p = ⟨p.at_, itr (p.cell.take (min p.cell.length 200)) (tms p) (p.cell.take (min p.cell.length 200))⟩ := rfl
    rw [hwo] at ih ⊢
    have htm1 := htm.1
    clear hwo
    generalize itr (p.cell.take (min p.cell.length 200)) (tms p) (p.cell.take (min p.cell.length 200)) = T at *
    generalize tms p = K at *
    obtain ⟨a, g, c⟩ := p
    simp only [pc] at sa htm1 hin ih ⊢
    have hlt : (i : Int) < N := by omega
    have wi : IntKind.wrap .i64 ((i : Int) + 1) = (i : Int) + 1 := IntWalk.i64_in _ (by omega)
    have hlim : (o.length + 1) * 24 ≤ 35184372088832 ∧ o.length ≤ 35184372088831 := by omega
    have hmin := Nat.min_le_left c.length 200
    have hne : o ++ [(⟨a, T⟩ : Wr)] ≠ [] := by simp
    have hfm : (o ++ [(⟨a, T⟩ : Wr)]).flatMap wc = o.flatMap wc ++ [.int .i64 a, .str T] := by simp [wc]
    have hol : (o ++ [(⟨a, T⟩ : Wr)]).length = o.length + 1 := by simp
    have hml : (o.flatMap wc).length = 2 * o.length := by rw [flat_len wc_len]; omega
    generalize hR : some (Ex.exit 0, x15_0 (pV M.length 48024 (o ++ [⟨a, T⟩] ++ rest)) (pV M.length 48052 (o ++ [⟨a, T⟩] ++ rest)), mk (pB (o ++ [⟨a, T⟩] ++ rest)) :: M) = RR at ih ⊢
    clear hR
    simp only [pV, pB, if_neg hne, hfm, hol, Nat.mul_add, Nat.mul_one] at ih
    rw [rnd0_some]
    conv => lhs; arg 2; arg 1; rw [s15_b0]
    by_cases h0 : o = []
    · subst h0
      simp only [List.flatMap_nil, List.nil_append, List.length_nil, Nat.mul_zero, Nat.zero_add, pV, pB, pX, pP, pc, if_true] at ih hin ⊢
      simp [hi, hlt, get_low, hd, hg, sa, la, h1, hn1, wi, i1, hmin, htm1]
      rw [ev_loop (K + 1) (by simp [hn1]) hin (by omega)]
      simpa [hi, hlt, get_low, hd, hg, sa, la, h1, hn1, wi, i1, rep] using ih
    · simp only [pV, pB, pX, pP, pc, if_neg h0] at hin ⊢
      generalize o.flatMap wc = FF at *
      generalize o.length = OL at *
      simp [hi, hlt, get_low, hd, hg, sa, la, h1, hn1, wi, i1, hmin, htm1]
      rw [ev_loop (K + 1) (by simp [hn1]) hin (by omega)]
      simpa [hi, hlt, get_low, hd, hg, sa, la, h1, hn1, wi, i1, rep, hml, hlim, Nat.mul_comm] using ih

/-- The writes that plain data are. -/
def wsOf (l : List Pl) : List Wr := (l.take 120).map wOf
def qV (D id : Nat) (o : List Wr) : AV := if o = [] then .slice none 0 0 else .slice (some ⟨D, id, 2 * o.length, 0⟩) o.length 2
def qC (o : List Wr) : List Con := if o = [] then [] else [.cells (o.flatMap wc) true true, .cells (o.flatMap wc) true true]

set_option maxHeartbeats 4000000 in
theorem writes_ev (k : Nat) (M : Mem) (v : AV) (l : List Pl) (hv : WM M 3 pc v l) : callFn SP (k + 1) 15 [v] M = some (.tuple [qV M.length 0 (wsOf l), qV M.length 1 (wsOf l)], qC (wsOf l), M) := by
  rcases hv with ⟨e, rfl, rfl⟩ | ⟨e, rfl, rfl⟩ | ⟨d, id, z, rw_, fl, r, rfl, hd, hg⟩
  · have hlp := l15a (callFn SP k) M (.slice none 0 3) [] 0 rfl (by omega) WM.nil 0 0 1 [] rfl (by omega) rfl
    have m0 : min (0 : Int) 120 = 0 := by decide
    rw [call_fn (f := 15) (by rfl) (by simp)]
    simp [m0]
    rw [ev_loop 1 (by simp [pV, pB]) hlp (by omega)]
    simp [pV, pB, wsOf, qV, qC]
  · have hlp := l15a (callFn SP k) M (.slice0 3) [] 0 rfl (by omega) (.inr (.inl ⟨3, rfl, rfl⟩)) 0 0 1 [] rfl (by omega) rfl
    have m0 : min (0 : Int) 120 = 0 := by decide
    rw [call_fn (f := 15) (by rfl) (by simp)]
    simp [m0]
    rw [ev_loop 1 (by simp [pV, pB]) hlp (by omega)]
    simp [pV, pB, wsOf, qV, qC]
  · have hn1 : d ≠ M.length := by omega
    have hw := WM_take (m := 3) (f := pc) 120 hd hg (N := min l.length 120) (by omega)
    have hlp := l15a (callFn SP k) M _ (l.take 120) (min l.length 120) (by rw [List.length_take]; omega) (by omega) hw (min l.length 120) 0 (min l.length 120 + 1) [] (by omega) (by omega) rfl
    rw [List.drop_zero, List.nil_append, show (l.take 120).map wOf = wsOf l from rfl] at hlp
    have hmin := Nat.min_le_left l.length 120
    have hml : ((wsOf l).flatMap wc).length = 2 * (wsOf l).length := by rw [flat_len wc_len]; omega
    rw [call_fn (f := 15) (by rfl) (by simp)]
    simp [hmin]
    rw [ev_loop (min l.length 120 + 1) (by simp [pV, pB, hn1]) hlp (by omega)]
    generalize wsOf l = W at *
    by_cases h0 : W = []
    · simp [pV, pB, qV, qC, h0]
    · generalize hFF : W.flatMap wc = FF at *
      simp [pV, pB, qV, qC, h0, hml, hFF]

end Go.Proofs.YtaennaoaoahjmaaDoor
