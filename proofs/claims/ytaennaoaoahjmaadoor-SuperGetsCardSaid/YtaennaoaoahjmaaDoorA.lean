/-
  The record's law: lists of structs in memory; a record; a record that is written and read.
-/
import Derived.Test.YtaennaoaoahjmaaDoorG
import Derived.Test.YtaennaoaoahjmaaDoorDetU
set_option maxRecDepth 100000
set_option linter.unusedSimpArgs false
set_option linter.unusedVariables false
namespace Go.Det

/-- A slice of structs that reads as a list. -/
def WM {α : Type} (M : Mem) (n : Nat) (f : α → List AV) (v : AV) (l : List α) : Prop :=
  (∃ e, v = .slice none 0 e ∧ l = []) ∨ (∃ e, v = .slice0 e ∧ l = []) ∨
    ∃ d id z rw fl r, v = .slice (some ⟨d, id, z, 0⟩) l.length n ∧ d < M.length ∧ ∀ o, get M ⟨d, id, z, o⟩ = some (.cells (l.flatMap f ++ r) rw fl)

theorem WM.cons {α : Type} {M : Mem} {n : Nat} {f : α → List AV} {v : AV} {l : List α} (h : WM M n f v l) (s : Scope) : WM (s :: M) n f v l := by
  rcases h with h | h | ⟨d, id, z, rw_, fl, r, h1, h2, h3⟩
  · exact .inl h
  · exact .inr (.inl h)
  · exact .inr (.inr ⟨d, id, z, rw_, fl, r, h1, by simp; omega, fun o => by rw [get_low (by exact h2)]; exact h3 o⟩)

theorem WM.ro {α : Type} {M : Mem} {n : Nat} {f : α → List AV} {v : AV} {l : List α} (h : WM M n f v l) : WM (Det.ro M) n f v l := by
  rcases h with h | h | ⟨d, id, z, rw_, fl, r, h1, h2, h3⟩
  · exact .inl h
  · exact .inr (.inl h)
  · exact .inr (.inr ⟨d, id, z, false, fl, r, h1, by rw [ro_length]; exact h2, fun o => by rw [get_ro, h3 o]; rfl⟩)

theorem WM.len {α : Type} {M : Mem} {n : Nat} {f : α → List AV} {v : AV} {l : List α} (h : WM M n f v l) : alen true v = some (.int .i64 l.length) := by
  rcases h with ⟨e, rfl, rfl⟩ | ⟨e, rfl, rfl⟩ | ⟨d, id, z, rw_, fl, r, rfl, h2, h3⟩ <;> rfl

theorem WM.nil {α : Type} {M : Mem} {n e : Nat} {f : α → List AV} : WM M n f (.slice none 0 e) [] := .inl ⟨_, rfl, rfl⟩

theorem WM.top {α : Type} {M : Mem} {n : Nat} {f : α → List AV} {l : List α} {s : Scope} {d id z N : Nat} {rw_ fl : Bool} (h : s id = some (.cells (l.flatMap f) rw_ fl)) (hd : d = M.length) (hz : z = (l.flatMap f).length) (hN : N = l.length) :
    WM (s :: M) n f (.slice (some ⟨d, id, z, 0⟩) N n) l := by
  subst hd hz hN
  exact .inr (.inr ⟨M.length, id, _, rw_, fl, [], rfl, by simp, fun o => by rw [get_top, h]; simp⟩)

theorem WM.block {α : Type} {M : Mem} {n : Nat} {f : α → List AV} {v : AV} {l : List α} (h : WM M n f v l) (h0 : 0 < l.length) :
    ∃ d id z rw fl r, v = .slice (some ⟨d, id, z, 0⟩) l.length n ∧ d < M.length ∧ ∀ o, get M ⟨d, id, z, o⟩ = some (.cells (l.flatMap f ++ r) rw fl) := by
  rcases h with ⟨e, _, rfl⟩ | ⟨e, _, rfl⟩ | h
  · simp at h0
  · simp at h0
  · exact h

theorem WS.block {α : Type} {M : Mem} {f : α → AV} {v : AV} {l : List α} (h : WS M f v l) (h0 : 0 < l.length) :
    ∃ d id z rw fl r, v = .slice (some ⟨d, id, z, 0⟩) l.length 1 ∧ d < M.length ∧ ∀ o, get M ⟨d, id, z, o⟩ = some (.cells (l.map f ++ r) rw fl) := by
  rcases h with ⟨e, _, rfl⟩ | ⟨e, _, rfl⟩ | h
  · simp at h0
  · simp at h0
  · exact h

theorem flat_len {α : Type} {n : Nat} {f : α → List AV} (hf : ∀ x, (f x).length = n) : ∀ l : List α, (l.flatMap f).length = l.length * n
  | [] => by simp
  | x :: l => by rw [List.flatMap_cons, List.length_append, hf, flat_len hf l, List.length_cons, Nat.add_mul, Nat.one_mul, Nat.add_comm]

theorem flat_seg {α : Type} [Inhabited α] {n : Nat} {f : α → List AV} (hf : ∀ x, (f x).length = n) (r : List AV) : ∀ (l : List α) (i : Nat), i < l.length → ((l.flatMap f ++ r).drop (i * n)).take n = f (nth l i)
  | [], i, h => by simp at h
  | x :: l, 0, h => by
    rw [Nat.zero_mul, List.drop_zero, List.flatMap_cons, List.append_assoc, List.take_append_of_le_length (by rw [hf]; exact Nat.le_refl _), List.take_of_length_le (by rw [hf]; exact Nat.le_refl _)]
    rfl
  | x :: l, i + 1, h => by
    have := flat_seg hf r l i (by simpa using h)
    have e : (i + 1) * n = (f x).length + i * n := by rw [hf, Nat.add_mul, Nat.one_mul, Nat.add_comm]
    rw [List.flatMap_cons, List.append_assoc, e, ← List.drop_drop, List.drop_left, this]
    rfl

theorem flat_cell {α : Type} [Inhabited α] {n : Nat} {f : α → List AV} (hf : ∀ x, (f x).length = n) (r : List AV) (l : List α) (i k : Nat) (h : i < l.length) (hk : k < n) : (l.flatMap f ++ r)[i * n + k]? = (f (nth l i))[k]? := by
  rw [← flat_seg hf r l i h, List.getElem?_take, if_pos hk, List.getElem?_drop]

theorem drop_nth {α : Type} [Inhabited α] (l : List α) (i : Nat) (h : i < l.length) : l.drop i = nth l i :: l.drop (i + 1) := by
  rw [List.drop_eq_getElem_cons h, getElem_nth]

end Go.Det

namespace Go.Proofs.YtaennaoaoahjmaaDoor
open Go.Det

/-- A disk: its state, its two digests. -/
structure Mb where
  st : Int
  top : List UInt8
  log : List UInt8
  deriving Inhabited, DecidableEq

def mc (m : Mb) : List AV := [.int .i64 m.st, .str m.top, .str m.log]
theorem mc_len (m : Mb) : (mc m).length = 3 := rfl

structure Rec where
  count : BitVec 64
  epoch : BitVec 64
  data : Int
  slots : Int
  mark : Int
  built : Int
  growing : Bool
  seats : List Int
  mems : List Mb
  deriving DecidableEq

def rcells (r : Rec) (sv mv : AV) : List AV := [u64 r.count, u64 r.epoch, .int .i64 r.data, .int .i64 r.slots, .int .i64 r.mark, .int .i64 r.built, .bool r.growing, sv, mv]
def recV (r : Rec) (sv mv : AV) : AV := .agg (rcells r sv mv)

/-- A record in memory. -/
structure IsRec (M : Mem) (r : Rec) (sv mv : AV) : Prop where
  s : WS M (AV.int .i64) sv r.seats
  m : WM M 3 mc mv r.mems
  hs : r.seats.length < 2 ^ 40
  hm : r.mems.length < 2 ^ 40

theorem IsRec.cons {M : Mem} {r : Rec} {sv mv : AV} (h : IsRec M r sv mv) (s : Scope) : IsRec (s :: M) r sv mv := ⟨h.s.cons s, h.m.cons s, h.hs, h.hm⟩
theorem IsRec.ro {M : Mem} {r : Rec} {sv mv : AV} (h : IsRec M r sv mv) : IsRec (Det.ro M) r sv mv := ⟨h.s.ro, h.m.ro, h.hs, h.hm⟩

theorem wakes_ev (s1 s2 s3 : Scope) : callFn SP 12 22 [] [s1, s2, s3] = some (.bool true, [], [s1, s2, s3]) := by kernel_rfl

end Go.Proofs.YtaennaoaoahjmaaDoor
