/-
  NONCE: maps of texts and of words; no two numbers are the same.
-/
import Derived.Test.YtkgbceeonmdlgaaR
set_option maxRecDepth 100000
set_option maxHeartbeats 1000000
set_option linter.unusedSimpArgs false
set_option linter.unusedVariables false
namespace Go.Proofs.Ytkgbceeonmdlgaa
open Go.Det Go.Det.K

/-- A map that holds these keys. -/
def ks {α : Type} (f : α → AV) (l : List α) : List (AV × AV) := l.map fun s => (f s, .bool true)

theorem find_str (a : List UInt8) : ∀ l : List (List UInt8), findIn (.str a) (ks AV.str l) = some (if a ∈ l then some (.bool true) else none)
  | [] => rfl
  | s :: l => by
    have ih := find_str a l
    simp only [ks] at ih
    by_cases h : a = s
    · subst h; simp [ks, findIn, sameKey]
    · have hb : (a == s) = false := by simpa using h
      simp only [ks, List.map_cons, findIn, sameKey, hb, ih, List.mem_cons, h, false_or]
theorem set_str (a : List UInt8) : ∀ l : List (List UInt8), a ∉ l → setIn (.str a) (.bool true) (ks AV.str l) = ks AV.str (l ++ [a])
  | [], _ => rfl
  | s :: l, h => by
    have ih := set_str a l (fun h' => h (by simp [h']))
    simp only [ks] at ih
    have hb : (a == s) = false := by
      have : a ≠ s := fun h' => h (by simp [h'])
      simpa using this
    simp only [ks, List.map_cons, List.cons_append, setIn, sameKey, hb, ih]

theorem one_inj (e n e' n' : BitVec 64) (h : one e n = one e' n') : e = e' ∧ n.setWidth 32 = n'.setWidth 32 := by
  obtain ⟨h1, h2⟩ := List.append_inj h (by rw [be8_len, be8_len])
  refine ⟨by rw [← two_be8 e, ← two_be8 e', h1], ?_⟩
  have w1 := W.wat_tx true [n.setWidth 32] 0 (by simp)
  have w2 := W.wat_tx true [n'.setWidth 32] 0 (by simp)
  rw [h2] at w1
  rw [w1] at w2
  exact w2

theorem same_u32 (a b : BitVec 32) : sameKey (u32 a) (u32 b) = some (a == b) := by
  show some ((a.toNat : Int) == (b.toNat : Int)) = _
  by_cases h : a = b
  · subst h; simp
  · have : ¬ (a.toNat : Int) = b.toNat := fun h' => h (BitVec.eq_of_toNat_eq (by omega))
    rw [beq_eq_false_iff_ne.2 this, beq_eq_false_iff_ne.2 h]
theorem find_u32 (a : BitVec 32) : ∀ l : List (BitVec 32), findIn (u32 a) (ks u32 l) = some (if a ∈ l then some (.bool true) else none)
  | [] => rfl
  | s :: l => by
    have ih := find_u32 a l
    rw [ks, List.map_cons, findIn, same_u32]
    rw [ks] at ih
    by_cases h : a = s
    · subst h; simp
    · have hb : (a == s) = false := by simpa using h
      simp only [hb, ih, List.mem_cons, h, false_or]
theorem set_u32 (a : BitVec 32) : ∀ l : List (BitVec 32), a ∉ l → setIn (u32 a) (.bool true) (ks u32 l) = ks u32 (l ++ [a])
  | [], _ => rfl
  | s :: l, h => by
    have ih := set_u32 a l (fun h' => h (by simp [h']))
    have hb : (a == s) = false := by
      have : a ≠ s := fun h' => h (by simp [h'])
      simpa using this
    rw [ks, List.map_cons, setIn, same_u32, hb]
    rw [ks] at ih
    simp only [ih]
    rfl

/-! ### a source behind two blocks -/
theorem trd_get (M : Mem) (i0 i1 id z : Nat) (c0 c1 c : Con) (l : List (Nat × Con)) (h0 : id ≠ i0) (h1 : id ≠ i1) (h : c.size = z) : ∀ o, get (mk ((i0, c0) :: (i1, c1) :: (id, c) :: l) :: M) ⟨M.length, id, z, o⟩ = some c := fun o => by
  rw [get_top, mk_cons, if_neg h0, mk_cons, if_neg h1, mk_cons, if_pos rfl]
  simp only [h, if_true]
theorem trd_put (M : Mem) (i0 i1 id : Nat) (c0 c1 c x : Con) (l : List (Nat × Con)) (h0 : id ≠ i0) (h1 : id ≠ i1) : put (mk ((i0, c0) :: (i1, c1) :: (id, c) :: l) :: M) M.length id x = mk ((i0, c0) :: (i1, c1) :: (id, x) :: l) :: M := by
  rw [put_top, setAt_mk]
  simp [ups, h0, h1, Ne.symm h0, Ne.symm h1]
theorem next_trd_ok (k : Nat) (M : Mem) (i0 i1 id : Nat) (c0 c1 : Con) (e n : BitVec 64) (fl : Bool) (l : List (Nat × Con)) (h0 : id ≠ i0) (h1 : id ≠ i1) (h : n ≤ 4294967295#64) :
    callFn SP (k + 3) 16 [.ptr (some ⟨M.length, id, 2, 0⟩)] (mk ((i0, c0) :: (i1, c1) :: (id, .cells [u64 e, u64 n] true fl) :: l) :: M) = some (.tuple [.str (one e n), .int .i64 0], [], mk ((i0, c0) :: (i1, c1) :: (id, .cells [u64 e, u64 (n + 1#64)] true fl) :: l) :: M) := by
  have h := next_ok k _ M.length id e n fl h (by simp) (trd_get M i0 i1 id 2 c0 c1 (sc e n fl) l h0 h1 rfl)
  rwa [trd_put _ _ _ _ _ _ _ _ _ h0 h1] at h
theorem next_trd_no (k : Nat) (M : Mem) (i0 i1 id : Nat) (c0 c1 : Con) (e n : BitVec 64) (fl : Bool) (l : List (Nat × Con)) (h0 : id ≠ i0) (h1 : id ≠ i1) (h : ¬ n ≤ 4294967295#64) :
    callFn SP (k + 3) 16 [.ptr (some ⟨M.length, id, 2, 0⟩)] (mk ((i0, c0) :: (i1, c1) :: (id, .cells [u64 e, u64 n] true fl) :: l) :: M) = some (.tuple [.str [], .int .i64 25], [], mk ((i0, c0) :: (i1, c1) :: (id, .cells [u64 e, u64 n] true fl) :: l) :: M) :=
  next_no k _ M.length id e n fl h (by simp) (trd_get M i0 i1 id 2 c0 c1 (sc e n fl) l h0 h1 rfl)
end Go.Proofs.Ytkgbceeonmdlgaa
