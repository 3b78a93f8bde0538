/-
  LIB, slices of structs: lists of records in memory; slices of them.
-/
import Derived.Test.YtaennaoaoahjmaaDoorDetU
set_option maxRecDepth 100000
set_option linter.unusedSimpArgs false
set_option linter.unusedVariables false
namespace Go.Det

/-- A slice of structs that reads as a list. -/
def WM {α : Type} (M : Mem) (n : Nat) (f : α → List AV) (v : AV) (l : List α) : Prop :=
  (∃ e, v = .slice none 0 e ∧ l = []) ∨ (∃ e, v = .slice0 e ∧ l = []) ∨
    ∃ d id z rw fl r, v = .slice (some ⟨d, id, z, 0⟩) l.length n ∧ d < M.length ∧ ∀ o, get M ⟨d, id, z, o⟩ = some (.cells (l.flatMap f ++ r) rw fl)

theorem WM.cons {α : Type} {M : Mem} {n : Nat} {f : α → List AV} {v : AV} {l : List α} (h : WM M n f v l) (s : Scope) : WM (s :: M) n f v l := by
  rcases h with h | h | ⟨d, id, z, rw_, fl, r, h1, h2, h3⟩
  · exact .inl h
  · exact .inr (.inl h)
  · exact .inr (.inr ⟨d, id, z, rw_, fl, r, h1, by simp; omega, fun o => by rw [get_low (by exact h2)]; exact h3 o⟩)

theorem WM.ro {α : Type} {M : Mem} {n : Nat} {f : α → List AV} {v : AV} {l : List α} (h : WM M n f v l) : WM (Det.ro M) n f v l := by
  rcases h with h | h | ⟨d, id, z, rw_, fl, r, h1, h2, h3⟩
  · exact .inl h
  · exact .inr (.inl h)
  · exact .inr (.inr ⟨d, id, z, false, fl, r, h1, by rw [ro_length]; exact h2, fun o => by rw [get_ro, h3 o]; rfl⟩)

theorem WM.len {α : Type} {M : Mem} {n : Nat} {f : α → List AV} {v : AV} {l : List α} (h : WM M n f v l) : alen true v = some (.int .i64 l.length) := by
  rcases h with ⟨e, rfl, rfl⟩ | ⟨e, rfl, rfl⟩ | ⟨d, id, z, rw_, fl, r, rfl, h2, h3⟩ <;> rfl

theorem WM.nil {α : Type} {M : Mem} {n e : Nat} {f : α → List AV} : WM M n f (.slice none 0 e) [] := .inl ⟨_, rfl, rfl⟩

theorem WM.top {α : Type} {M : Mem} {n : Nat} {f : α → List AV} {l : List α} {s : Scope} {d id z N : Nat} {rw_ fl : Bool} (h : s id = some (.cells (l.flatMap f) rw_ fl)) (hd : d = M.length) (hz : z = (l.flatMap f).length) (hN : N = l.length) :
    WM (s :: M) n f (.slice (some ⟨d, id, z, 0⟩) N n) l := by
  subst hd hz hN
  exact .inr (.inr ⟨M.length, id, _, rw_, fl, [], rfl, by simp, fun o => by rw [get_top, h]; simp⟩)

theorem WM.block {α : Type} {M : Mem} {n : Nat} {f : α → List AV} {v : AV} {l : List α} (h : WM M n f v l) (h0 : 0 < l.length) :
    ∃ d id z rw fl r, v = .slice (some ⟨d, id, z, 0⟩) l.length n ∧ d < M.length ∧ ∀ o, get M ⟨d, id, z, o⟩ = some (.cells (l.flatMap f ++ r) rw fl) := by
  rcases h with ⟨e, _, rfl⟩ | ⟨e, _, rfl⟩ | h
  · simp at h0
  · simp at h0
  · exact h

theorem WS.block {α : Type} {M : Mem} {f : α → AV} {v : AV} {l : List α} (h : WS M f v l) (h0 : 0 < l.length) :
    ∃ d id z rw fl r, v = .slice (some ⟨d, id, z, 0⟩) l.length 1 ∧ d < M.length ∧ ∀ o, get M ⟨d, id, z, o⟩ = some (.cells (l.map f ++ r) rw fl) := by
  rcases h with ⟨e, _, rfl⟩ | ⟨e, _, rfl⟩ | h
  · simp at h0
  · simp at h0
  · exact h

theorem flat_len {α : Type} {n : Nat} {f : α → List AV} (hf : ∀ x, (f x).length = n) : ∀ l : List α, (l.flatMap f).length = l.length * n
  | [] => by simp
  | x :: l => by rw [List.flatMap_cons, List.length_append, hf, flat_len hf l, List.length_cons, Nat.add_mul, Nat.one_mul, Nat.add_comm]

theorem flat_seg {α : Type} [Inhabited α] {n : Nat} {f : α → List AV} (hf : ∀ x, (f x).length = n) (r : List AV) : ∀ (l : List α) (i : Nat), i < l.length → ((l.flatMap f ++ r).drop (i * n)).take n = f (nth l i)
  | [], i, h => by simp at h
  | x :: l, 0, h => by
    rw [Nat.zero_mul, List.drop_zero, List.flatMap_cons, List.append_assoc, List.take_append_of_le_length (by rw [hf]; exact Nat.le_refl _), List.take_of_length_le (by rw [hf]; exact Nat.le_refl _)]
    rfl
  | x :: l, i + 1, h => by
    have := flat_seg hf r l i (by simpa using h)
    have e : (i + 1) * n = (f x).length + i * n := by rw [hf, Nat.add_mul, Nat.one_mul, Nat.add_comm]
    rw [List.flatMap_cons, List.append_assoc, e, ← List.drop_drop, List.drop_left, this]
    rfl

theorem flat_cell {α : Type} [Inhabited α] {n : Nat} {f : α → List AV} (hf : ∀ x, (f x).length = n) (r : List AV) (l : List α) (i k : Nat) (h : i < l.length) (hk : k < n) : (l.flatMap f ++ r)[i * n + k]? = (f (nth l i))[k]? := by
  rw [← flat_seg hf r l i h, List.getElem?_take, if_pos hk, List.getElem?_drop]

theorem drop_nth {α : Type} [Inhabited α] (l : List α) (i : Nat) (h : i < l.length) : l.drop i = nth l i :: l.drop (i + 1) := by
  rw [List.drop_eq_getElem_cons h, getElem_nth]

theorem WS_ids {α : Type} {M : Mem} {f : α → AV} {v : AV} {l : List α} (h : WS M f v l) : AV.ids M.length v = [] := by
  rcases h with ⟨e, rfl, rfl⟩ | ⟨e, rfl, rfl⟩ | ⟨d, id, z, rw_, fl, r, rfl, h2, h3⟩
  · rfl
  · rfl
  · have : d ≠ M.length := by omega
    simp [this]

theorem WM_ids {α : Type} {M : Mem} {n : Nat} {f : α → List AV} {v : AV} {l : List α} (h : WM M n f v l) : AV.ids M.length v = [] := by
  rcases h with ⟨e, rfl, rfl⟩ | ⟨e, rfl, rfl⟩ | ⟨d, id, z, rw_, fl, r, rfl, h2, h3⟩
  · rfl
  · rfl
  · have : d ≠ M.length := by omega
    simp [this]

theorem WM_take {α : Type} {M : Mem} {m d id z N : Nat} {f : α → List AV} {rw_ fl : Bool} {r : List AV} {l : List α} (n : Nat) (hd : d < M.length) (hg : ∀ o, get M ⟨d, id, z, o⟩ = some (.cells (l.flatMap f ++ r) rw_ fl)) (hN : N = min n l.length) :
    WM M m f (.slice (some ⟨d, id, z, 0⟩) N m) (l.take n) := by
  subst hN
  refine .inr (.inr ⟨d, id, z, rw_, fl, (l.drop n).flatMap f ++ r, by rw [List.length_take], hd, fun o => ?_⟩)
  rw [hg, ← List.append_assoc, ← List.flatMap_append, List.take_append_drop]

end Go.Det
