/-
  DET, part T: a list that grows from nil, element by element.
-/
import Derived.Test.YtaennaoaoahjmaaDoorDetQ
set_option linter.unusedSimpArgs false
set_option linter.unusedVariables false
namespace Go.Det

/-- What grows from nil: the slice, and its block. -/
def gv (d id : Nat) (l : List AV) : AV := if l = [] then .slice none 0 0 else .slice (some ⟨d, id, l.length, 0⟩) l.length 1
def gm (id : Nat) (fl : Bool) (l : List AV) : List (Nat × Con) := if l = [] then [] else [(id, .cells l true fl)]

theorem gv_nil (d id : Nat) : gv d id [] = .slice none 0 0 := rfl
theorem gm_nil (id : Nat) (fl : Bool) : gm id fl [] = [] := rfl
theorem gv_ne (d id : Nat) (l : List AV) (h : l ≠ []) : gv d id l = .slice (some ⟨d, id, l.length, 0⟩) l.length 1 := by simp [gv, h]
theorem gm_ne (id : Nat) (fl : Bool) (l : List AV) (h : l ≠ []) : gm id fl l = [(id, .cells l true fl)] := by simp [gm, h]
theorem gv_snoc (d id : Nat) (l : List AV) (x : AV) : gv d id (l ++ [x]) = .slice (some ⟨d, id, l.length + 1, 0⟩) (l.length + 1) 1 := by simp [gv]
theorem gm_snoc (id : Nat) (fl : Bool) (l : List AV) (x : AV) : gm id fl (l ++ [x]) = [(id, .cells (l ++ [x]) true fl)] := by simp [gm]

/-- A slice that reads as a list; behind it there may be more cells. -/
def WS {α : Type} (M : Mem) (f : α → AV) (v : AV) (l : List α) : Prop :=
  (∃ e, v = .slice none 0 e ∧ l = []) ∨ (∃ e, v = .slice0 e ∧ l = []) ∨
    ∃ d id z rw fl r, v = .slice (some ⟨d, id, z, 0⟩) l.length 1 ∧ d < M.length ∧ ∀ o, get M ⟨d, id, z, o⟩ = some (.cells (l.map f ++ r) rw fl)

theorem WS.cons {α : Type} {M : Mem} {f : α → AV} {v : AV} {l : List α} (h : WS M f v l) (s : Scope) : WS (s :: M) f v l := by
  rcases h with h | h | ⟨d, id, z, rw_, fl, r, h1, h2, h3⟩
  · exact .inl h
  · exact .inr (.inl h)
  · exact .inr (.inr ⟨d, id, z, rw_, fl, r, h1, by simp; omega, fun o => by rw [get_low (by exact h2)]; exact h3 o⟩)

theorem WS.ro {α : Type} {M : Mem} {f : α → AV} {v : AV} {l : List α} (h : WS M f v l) : WS (Det.ro M) f v l := by
  rcases h with h | h | ⟨d, id, z, rw_, fl, r, h1, h2, h3⟩
  · exact .inl h
  · exact .inr (.inl h)
  · exact .inr (.inr ⟨d, id, z, false, fl, r, h1, by rw [ro_length]; exact h2, fun o => by rw [get_ro, h3 o]; rfl⟩)

/-- A whole block of the uppermost scope. -/
theorem WS.top {α : Type} {M : Mem} {f : α → AV} {l : List α} {s : Scope} {id : Nat} {rw_ fl : Bool} (h : s id = some (.cells (l.map f) rw_ fl)) : WS (s :: M) f (.slice (some ⟨M.length, id, l.length, 0⟩) l.length 1) l :=
  .inr (.inr ⟨M.length, id, l.length, rw_, fl, [], rfl, by simp, fun o => by rw [get_top, h]; simp⟩)

theorem WS.top' {α : Type} {M : Mem} {f : α → AV} {l : List α} {s : Scope} {d id z N : Nat} {rw_ fl : Bool} (h : s id = some (.cells (l.map f) rw_ fl)) (hd : d = M.length) (hz : z = l.length) (hN : N = l.length) : WS (s :: M) f (.slice (some ⟨d, id, z, 0⟩) N 1) l := by
  subst hd hz hN
  exact WS.top h
theorem WS.nil {α : Type} {M : Mem} {f : α → AV} {e : Nat} : WS M f (.slice none 0 e) [] := .inl ⟨_, rfl, rfl⟩

theorem WS.len {α : Type} {M : Mem} {f : α → AV} {v : AV} {l : List α} (h : WS M f v l) : alen true v = some (.int .i64 l.length) := by
  rcases h with ⟨e, rfl, rfl⟩ | ⟨e, rfl, rfl⟩ | ⟨d, id, z, rw_, fl, r, rfl, h2, h3⟩ <;> rfl

/-- A beginning. -/
theorem WS.take {α : Type} {M : Mem} {f : α → AV} {d id z N : Nat} {rw_ fl : Bool} {r : List AV} {l : List α} (n : Nat) (hd : d < M.length) (hg : ∀ o, get M ⟨d, id, z, o⟩ = some (.cells (l.map f ++ r) rw_ fl)) (hN : N = min n l.length) :
    WS M f (.slice (some ⟨d, id, z, 0⟩) N 1) (l.take n) := by
  subst hN
  refine .inr (.inr ⟨d, id, z, rw_, fl, (l.drop n).map f ++ r, by rw [List.length_take], hd, fun o => ?_⟩)
  rw [hg, ← List.append_assoc, ← List.map_append, List.take_append_drop]

theorem map_app_get {α : Type} [Inhabited α] (f : α → AV) (l : List α) (r : List AV) (i : Nat) (h : i < l.length) : (l.map f ++ r)[i]? = some (f (nth l i)) := by
  rw [List.getElem?_append_left (by simpa using h), List.getElem?_map, getElem?_nth l i h]; rfl

theorem getElem_nth {α : Type} [Inhabited α] (l : List α) (i : Nat) (h : i < l.length) : l[i] = nth l i := by
  have := getElem?_nth l i h
  rw [List.getElem?_eq_getElem h] at this
  exact Option.some.inj this
@[simp] theorem au_not (b : Bool) : aun .not (.bool b) = some (.bool !b) := nodef rfl
@[simp] theorem au_negi (n : Int) : aun .neg (.int .i64 n) = some (.int .i64 (IntKind.wrap .i64 (0 - n))) := nodef rfl
attribute [simp] unders_rep
@[simp] theorem bytesOf_nil : bytesOf [] = some [] := nodef rfl
@[simp] theorem under_u32 (e : Nat) (x : BitVec 32) : AV.under e (u32 x) = true := rfl
@[simp] theorem under_u64 (e : Nat) (x : BitVec 64) : AV.under e (u64 x) = true := rfl
@[simp] theorem under_u8 (e : Nat) (x : UInt8) : AV.under e (byteAV x) = true := rfl
@[simp] theorem under_int (e : Nat) (k : IntKind) (x : Int) : AV.under e (.int k x) = true := rfl
@[simp] theorem under_bool (e : Nat) (x : Bool) : AV.under e (.bool x) = true := rfl
@[simp] theorem under_str (e : Nat) (x : List UInt8) : AV.under e (.str x) = true := rfl

/-! ### lists by place -/
def tab {α : Type} (f : Nat → α) (n : Nat) : List α := (List.range n).map f
theorem tab_zero {α : Type} (f : Nat → α) : tab f 0 = [] := rfl
theorem tab_succ {α : Type} (f : Nat → α) (n : Nat) : tab f (n + 1) = tab f n ++ [f n] := by simp [tab, List.range_succ]
@[simp] theorem tab_len {α : Type} (f : Nat → α) (n : Nat) : (tab f n).length = n := by simp [tab]
theorem nth_tab {α : Type} [Inhabited α] (f : Nat → α) (n i : Nat) (h : i < n) : nth (tab f n) i = f i := nth_range _ _ _ h
theorem tab_congr {α : Type} (f g : Nat → α) (n : Nat) (h : ∀ i, i < n → f i = g i) : tab f n = tab g n := List.map_congr_left fun i hi => h i (List.mem_range.1 hi)
theorem tab_eq {α : Type} [Inhabited α] (f : Nat → α) (n : Nat) (l : List α) (hl : l.length = n) (h : ∀ i, i < n → nth l i = f i) : tab f n = l :=
  nth_ext (by simp [hl]) fun i hi => by rw [tab_len] at hi; rw [nth_tab _ _ _ hi, h i hi]
theorem tab_ne {α : Type} (f : Nat → α) (g : α → AV) (n : Nat) (h : 0 < n) : (tab f n).map g ≠ [] := by
  intro h0
  have := congrArg List.length h0
  simp at this
  omega

/-- A list of n of which the first i are laid. -/
def fil {α : Type} (f : Nat → α) (z : α) (n i : Nat) : List α := tab (fun k => if k < i then f k else z) n
@[simp] theorem fil_len {α : Type} (f : Nat → α) (z : α) (n i : Nat) : (fil f z n i).length = n := by simp [fil]
theorem fil_zero {α : Type} (f : Nat → α) (z : α) (n : Nat) : fil f z n 0 = List.replicate n z := by
  refine List.ext_getElem (by simp) fun i h1 h2 => ?_
  simp [fil, tab]
theorem fil_all {α : Type} (f : Nat → α) (z : α) (n : Nat) : fil f z n n = tab f n := tab_congr _ _ _ fun i hi => if_pos hi
theorem fil_set {α : Type} [Inhabited α] (f : Nat → α) (z : α) (n i : Nat) (h : i < n) : (fil f z n i).set i (f i) = fil f z n (i + 1) := by
  refine nth_ext (by simp) fun k hk => ?_
  simp at hk
  rw [nth_set _ _ _ _ (by simpa using hk)]
  simp only [fil]
  rw [nth_tab _ _ _ hk, nth_tab _ _ _ hk]
  by_cases h1 : i = k
  · subst h1; simp
  · rw [if_neg h1]
    by_cases h2 : k < i
    · rw [if_pos h2, if_pos (by omega)]
    · rw [if_neg h2, if_neg (by omega)]

/-! ### writing below -/
theorem get_put {M : Mem} {d id : Nat} {x : Con} (h : d < M.length) (z o : Nat) : get (put M d id x) ⟨d, id, z, o⟩ = if x.size = z then some x else none := by
  unfold get
  simp only [ent_put h, and_self, if_true]
theorem get_ent {M : Mem} {d id z o : Nat} {c : Con} (h : get M ⟨d, id, z, o⟩ = some c) : ent M d id = some c ∧ c.size = z := by
  unfold get at h
  simp only at h
  split at h
  · rename_i c' hc
    split at h
    · rename_i hs
      cases h
      exact ⟨hc, hs⟩
    · cases h
  · cases h
theorem put_put : ∀ (M : Mem) (d id : Nat) (x y : Con), put (put M d id x) d id y = put M d id y
  | [], d, id, x, y => rfl
  | s :: M, d, id, x, y => by
    simp only [put]
    by_cases h : d = M.length
    · simp only [if_pos h, put]
      congr 1
      funext j
      simp only [setAt]
      split <;> rfl
    · simp only [if_neg h, put, put_length]
      rw [put_put M d id x y]
theorem put_self : ∀ (M : Mem) (d id : Nat) (x : Con), ent M d id = some x → put M d id x = M
  | [], d, id, x, h => rfl
  | s :: M, d, id, x, h => by
    simp only [put, ent] at h ⊢
    by_cases hd : d = M.length
    · simp only [if_pos hd] at h ⊢
      congr 1
      funext j
      simp only [setAt]
      split
      · rename_i hj; rw [hj, h]
      · rfl
    · simp only [if_neg hd] at h ⊢
      rw [put_self M d id x h]

theorem get_sput {s : Scope} {M : Mem} {d id : Nat} {x : Con} (h : d < M.length) (z o : Nat) : get (s :: put M d id x) ⟨d, id, z, o⟩ = if x.size = z then some x else none := by
  rw [get_low (by rw [put_length]; exact h), get_put h]
theorem put_sput {s : Scope} {M : Mem} {d id : Nat} {x y : Con} (h : d < M.length) : put (s :: put M d id x) d id y = s :: put M d id y := by
  rw [put_low (by rw [put_length]; exact h), put_put]

end Go.Det
