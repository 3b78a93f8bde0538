/-
  The log's law: readers in a scope; how many cells a log has; a write that is read.
-/
import Derived.Test.YtaennaoaoahjmaaDoorHD
set_option maxRecDepth 100000
set_option linter.unusedSimpArgs false
set_option linter.unusedVariables false
namespace Go.Proofs.YtaennaoaoahjmaaDoor
open Go.Det Go.Det.S

def rdC (r : K.Rd) : Con := .cells [.str r.1, .int .i64 r.2] true true

theorem new_at (k : Nat) (M : Mem) (t : List UInt8) : callFn SP (k + 1) 30 [.str t] M = some (.ptr (some ⟨M.length, 0, 2, 0⟩), [rdC (t, 0)], M) := K.new_ev (SP := SP) (n24 := 30) rfl k M t
theorem below_at (k : Nat) (M : Mem) (id : Nat) (b : Int) (r : K.Rd) (hr : r.1.length < 2 ^ 48) : ∀ l, mk l id = some (rdC r) →
    callFn SP (k + 5) 31 [.ptr (some ⟨M.length, id, 2, 0⟩), .int .i64 b] (mk l :: M) = some (.int .i64 (K.rbelow b r).1, [], mk (ups id (rdC (K.rbelow b r).2) l) :: M) := by
  intro l h
  have := K.below_ev (SP := SP) (n26 := 40) (n30 := 31) (n40 := 51) (n41 := 53) (n43 := 64) (n44 := 65) rfl rfl rfl rfl rfl rfl k (mk l :: M) M.length id r true b (by simp) hr (fun o => by rw [get_top, h]; rfl)
  rwa [put_top, setAt_mk] at this
theorem rtext_at (k : Nat) (M : Mem) (id : Nat) (r : K.Rd) (hr : r.1.length < 2 ^ 48) : ∀ l, mk l id = some (rdC r) →
    callFn SP (k + 5) 32 [.ptr (some ⟨M.length, id, 2, 0⟩)] (mk l :: M) = some (.str (K.rtext r).1, [], mk (ups id (rdC (K.rtext r).2) l) :: M) := by
  intro l h
  have := K.rtext_ev (SP := SP) (n25 := 32) (n26 := 40) (n40 := 51) (n41 := 53) (n43 := 64) (n44 := 65) rfl rfl rfl rfl rfl rfl k (mk l :: M) M.length id r true (by simp) hr (fun o => by rw [get_top, h]; rfl)
  rwa [put_top, setAt_mk] at this
theorem done_at (k : Nat) (M : Mem) (id : Nat) (r : K.Rd) (rw_ fl : Bool) : ∀ l, mk l id = some (.cells [.str r.1, .int .i64 r.2] rw_ fl) →
    callFn SP (k + 1) 33 [.ptr (some ⟨M.length, id, 2, 0⟩)] (mk l :: M) = some (.int .i64 (K.rdone r), [], mk l :: M) := by
  intro l h
  obtain ⟨t, b⟩ := r
  have hg : ∀ o, Det.get (mk l :: M) ⟨M.length, id, 2, o⟩ = some (.cells [.str t, .int .i64 b] rw_ fl) := fun o => by rw [get_top, h]; rfl
  have hd : M.length < (mk l :: M).length := by simp
  generalize mk l :: M = M1 at *
  rw [call_fn (f := 33) (by rfl) (by simp)]
  unfold K.rdone
  by_cases h1 : b = 0
  · by_cases h2 : t = []
    · simp (disch := omega) [h1, h2, get_low, hg, hd]
    · simp (disch := omega) [h1, h2, get_low, hg, hd]
  · simp (disch := omega) [h1, get_low, hg, hd]

theorem ofInt64_nat (b : Int) (h1 : 0 ≤ b) (h2 : b < 2 ^ 60) : (BitVec.ofInt 64 b).toNat = b.toNat := by
  rw [BitVec.toNat_ofInt]
  omega

theorem rbelow_lt (b : Int) (r : K.Rd) (h1 : 0 < b) (h2 : b < 2 ^ 60) : 0 ≤ (K.rbelow b r).1 ∧ (K.rbelow b r).1 < b := by
  unfold K.rbelow
  split
  · split
    · exact ⟨Int.le_refl _, h1⟩
    · rename_i h
      rw [not_or] at h
      have h3 := h.2
      rw [BitVec.le_def, ofInt64_nat b (by omega) h2] at h3
      rw [IntWalk.i64_in _ (by omega)]
      simp only
      omega
  · exact ⟨Int.le_refl _, h1⟩
theorem rbelow_len (b : Int) (r : K.Rd) : (K.rbelow b r).2.1.length ≤ r.1.length := by
  unfold K.rbelow
  have := K.rnum_len r
  split
  · split <;> exact this
  · exact this

/-- How many cells a log has, or 0; the error. -/
def sizeN (t : List UInt8) : Int := if K.rdone (K.rbelow 96 (t, 0)).2 = 0 then (K.rbelow 96 (t, 0)).1 + 1 else 0
def sizeE (t : List UInt8) : Int := if K.rdone (K.rbelow 96 (t, 0)).2 = 0 then 0 else 4

theorem size_ev (k : Nat) (M : Mem) (t : List UInt8) (ht : t.length < 2 ^ 48) : callFn SP (k + 6) 12 [.str t] M = some (.tuple [.int .i64 (sizeN t), .int .i64 (sizeE t)], [], M) := by
  have h1 := fun s => new_at (k + 4) (s :: ro M) t
  have h2 := below_at k M 4004 96 (t, 0) ht
  have h3 := done_at (k + 4) (ro M) 4004 (K.rbelow 96 (t, 0)).2 false true
  have hb := rbelow_lt 96 (t, 0) (by omega) (by omega)
  unfold sizeN sizeE
  generalize K.rbelow 96 (t, 0) = q at *
  obtain ⟨x, r⟩ := q
  simp only [rdC, ro_length, List.length_cons] at h1 h2 h3 hb ⊢
  have wx : IntKind.wrap .i64 (x + 1) = x + 1 := IntWalk.i64_in _ (by omega)
  rw [call_fn (f := 12) (by rfl) (by simp)]
  by_cases hd : K.rdone r = 0
  · simp [h1, h2, h3, ro_length, hd, wx]
  · simp [h1, h2, h3, ro_length, hd]

/-- A write that is read of a cell. -/
def rdW (t : List UInt8) : Option Wr :=
  if K.rdone (K.rtext (K.rbelow 140 (t, 0)).2).2 = 0 ∧ mayE ⟨(K.rbelow 140 (t, 0)).1, (K.rtext (K.rbelow 140 (t, 0)).2).1⟩ = 0 then some ⟨(K.rbelow 140 (t, 0)).1, (K.rtext (K.rbelow 140 (t, 0)).2).1⟩ else none
/-- The writes ahead of the first cell that is none; whether there is such a cell. -/
def rdL : List (List UInt8) → List Wr
  | [] => []
  | t :: l => match rdW t with | some w => w :: rdL l | none => []
def rdA : List (List UInt8) → Bool
  | [] => true
  | t :: l => match rdW t with | some _ => rdA l | none => false

def wV (D : Nat) (l : List Wr) : AV := if l = [] then .slice none 0 0 else .slice (some ⟨D, 76012, 2 * l.length, 0⟩) l.length 2
def wB (l : List Wr) : List (Nat × Con) := if l = [] then [] else [(76012, .cells (l.flatMap wc) true true)]

def r10 (M : Mem) (o : List Wr) (ok : Bool) : Option (Ex × Env × Mem) :=
  if ok then some (.exit 1, x10_0 .dead .dead (wV M.length o), mk (wB o) :: M) else some (.ret, x10_0 (.slice none 0 0) (.int .i64 4) (wV M.length o), mk (wB o) :: M)

set_option maxHeartbeats 8000000 in
theorem l10 (k : Nat) (M : Mem) (v : AV) (l : List (List UInt8)) (N : Nat) (h1 : N + 1 ≤ l.length) (hN : N < 100) (hv : WS M AV.str v l) (hl : ∀ t ∈ l, t.length < 2 ^ 48) (j : Nat) : ∀ (i n : Nat) (o : List Wr), i + j = N → j < n → o.length = i →
    fgt a10_0 (rnd0 (some (e10_0 v (wV M.length o) (.int .i64 N) (.int .i64 i), mk (wB o) :: M)) k10_0 (callFn SP (k + 5)) s10_b0 n) =
      r10 M (o ++ rdL ((l.drop (i + 1)).take j)) (rdA ((l.drop (i + 1)).take j)) := by
  have i1 := WS_ids hv
  induction j with
  | zero =>
    intro i n o h hn ho
    obtain rfl : i = N := by omega
    rw [rnd0_some]
    conv => lhs; arg 2; arg 1; rw [s10_b0]
    by_cases h0 : o = []
    · simp [wV, wB, r10, rdL, rdA, i1, h0]
    · simp [wV, wB, r10, rdL, rdA, i1, h0]
  | succ j ih0 =>
    intro i n o h hn ho
    obtain ⟨n, rfl⟩ : ∃ m, n = m + 1 := ⟨n - 1, by omega⟩
    have hi : i < N := by omega
    obtain ⟨d, id, z, rw_, fl, r, hvv, hd, hg⟩ := hv.block (by omega)
    subst hvv
    have ga := map_app_get AV.str l r (i + 1) (by omega)
    have hn1 : d ≠ M.length := by omega
    rw [drop_nth l (i + 1) (by omega), List.take_succ_cons]
    have hmem : nth l (i + 1) ∈ l := List.mem_of_getElem? (getElem?_nth l (i + 1) (by omega))
    have ht := hl _ hmem
    simp only [rdL, rdA]
    have ih := fun w => ih0 (i + 1) n (o ++ [w]) (by omega) (by omega) (by simp [ho])
    clear ih0 hv
    have hil : i + 1 < (l.map AV.str ++ r).length := by simp; omega
    have gb := cell_at ga hil
    generalize (l.drop (i + 1 + 1)).take j = rest at *
    have hll : l.length ≤ 2 ^ 62 ∨ True := .inr trivial
    generalize l.map AV.str ++ r = BA at *
    have hiL : (i : Int) + 1 < l.length := by omega
    have hiL' : i + 1 < l.length := by omega
    generalize nth l (i + 1) = t at *
    have q1 := fun s => new_at (k + 4) (s :: ro M) t
    have q2 := below_at k M 56020 140 (t, 0) ht
    have g2 := rbelow_len 140 (t, 0)
    have q3 := rtext_at k M 56020 (K.rbelow 140 (t, 0)).2 (Nat.lt_of_le_of_lt g2 ht)
    have q4 := done_at (k + 4) (ro M) 56020 (K.rtext (K.rbelow 140 (t, 0)).2).2 false true
    have q5 := fun L => may_ev (k + 4) (mk L :: ro M) ⟨(K.rbelow 140 (t, 0)).1, (K.rtext (K.rbelow 140 (t, 0)).2).1⟩
    simp only [rdW]
    generalize K.rbelow 140 (t, 0) = p at *
    obtain ⟨a, r1⟩ := p
    simp only at q2 q3 q4 q5 ⊢
    generalize K.rtext r1 = p at *
    obtain ⟨c, r2⟩ := p
    simp only [rdC, ro_length, List.length_cons, wc] at q1 q2 q3 q4 q5 ⊢
    have hlt : (i : Int) < N := by omega
    have wi : IntKind.wrap .i64 ((i : Int) + 1) = (i : Int) + 1 := IntWalk.i64_in _ (by omega)
    have hin : ((i : Int) + 1).toNat = i + 1 := by omega
    have hi0 : (0 : Int) ≤ (i : Int) + 1 := by omega
    have hlim : (o.length + 1) * 24 ≤ 35184372088832 ∧ o.length ≤ 35184372088831 := by omega
    generalize hE : mayE ⟨a, c⟩ = E at *
    rw [rnd0_some]
    conv => lhs; arg 2; arg 1; rw [s10_b0]
    by_cases hd0 : K.rdone r2 = 0
    · by_cases he : E = 0
      · rw [if_pos ⟨hd0, he⟩]
        have ih := ih ⟨a, c⟩
        subst he
        simp only
        rw [show o ++ (⟨a, c⟩ : Wr) :: rdL rest = o ++ [⟨a, c⟩] ++ rdL rest by simp]
        generalize hR : r10 M (o ++ [⟨a, c⟩] ++ rdL rest) (rdA rest) = RR at *
        clear hR
        have hne : o ++ [(⟨a, c⟩ : Wr)] ≠ [] := by simp
        have hfm : (o ++ [(⟨a, c⟩ : Wr)]).flatMap wc = o.flatMap wc ++ [.int .i64 a, .str c] := by simp [wc]
        have hol : (o ++ [(⟨a, c⟩ : Wr)]).length = o.length + 1 := by simp
        have hml : (o.flatMap wc).length = 2 * o.length := by rw [flat_len wc_len]; omega
        simp only [wV, wB, if_neg hne, hfm, hol, Nat.mul_add, Nat.mul_one] at ih
        by_cases h0 : o = []
        · subst h0
          simp only [List.flatMap_nil, List.nil_append, List.length_nil, Nat.mul_zero, Nat.zero_add] at ih
          simpa [hi, hlt, get_low, hd, hg, ga, gb, hil, h1, hn1, wi, wV, wB, i1, q1, q2, q3, q4, q5, hd0, hiL, hiL', hin, hi0, rep] using ih
        · simp only [wV, wB, if_neg h0]
          generalize o.flatMap wc = FF at *
          simpa [hi, hlt, get_low, hd, hg, ga, gb, hil, h1, hn1, wi, wV, wB, i1, q1, q2, q3, q4, q5, hd0, hiL, hiL', hin, hi0, rep, h0, hml, hlim, Nat.mul_comm] using ih
      · rw [if_neg (fun h => he h.2)]
        simp only [List.append_nil]
        by_cases h0 : o = []
        · subst h0
          simp [hi, hlt, get_low, hd, hg, ga, gb, hil, h1, hn1, wi, wV, wB, i1, q1, q2, q3, q4, q5, hd0, he, hiL, hiL', hin, hi0, r10]
        · generalize o.flatMap wc = FF at *
          simp [hi, hlt, get_low, hd, hg, ga, gb, hil, h1, hn1, wi, wV, wB, i1, q1, q2, q3, q4, q5, hd0, he, hiL, hiL', hin, hi0, r10, h0]
    · rw [if_neg (fun h => hd0 h.1)]
      simp only [List.append_nil]
      by_cases h0 : o = []
      · subst h0
        simp [hi, hlt, get_low, hd, hg, ga, gb, hil, h1, hn1, wi, wV, wB, i1, q1, q2, q3, q4, q5, hd0, hiL, hiL', hin, hi0, r10]
      · generalize o.flatMap wc = FF at *
        simp [hi, hlt, get_low, hd, hg, ga, gb, hil, h1, hn1, wi, wV, wB, i1, q1, q2, q3, q4, q5, hd0, hiL, hiL', hin, hi0, r10, h0]

end Go.Proofs.YtaennaoaoahjmaaDoor
