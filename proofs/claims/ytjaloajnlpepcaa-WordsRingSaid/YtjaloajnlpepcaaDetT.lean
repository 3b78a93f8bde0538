/-
  DET, part T: a list that grows from nil, element by element.
-/
import Derived.Test.YtjaloajnlpepcaaDetQ
set_option linter.unusedSimpArgs false
set_option linter.unusedVariables false
namespace Go.Det

/-- What grows from nil: the slice, and its block. -/
def gv (d id : Nat) (l : List AV) : AV := if l = [] then .slice none 0 0 else .slice (some ⟨d, id, l.length, 0⟩) l.length 1
def gm (id : Nat) (fl : Bool) (l : List AV) : List (Nat × Con) := if l = [] then [] else [(id, .cells l true fl)]

theorem gv_nil (d id : Nat) : gv d id [] = .slice none 0 0 := rfl
theorem gm_nil (id : Nat) (fl : Bool) : gm id fl [] = [] := rfl
theorem gv_ne (d id : Nat) (l : List AV) (h : l ≠ []) : gv d id l = .slice (some ⟨d, id, l.length, 0⟩) l.length 1 := by simp [gv, h]
theorem gm_ne (id : Nat) (fl : Bool) (l : List AV) (h : l ≠ []) : gm id fl l = [(id, .cells l true fl)] := by simp [gm, h]
theorem gv_snoc (d id : Nat) (l : List AV) (x : AV) : gv d id (l ++ [x]) = .slice (some ⟨d, id, l.length + 1, 0⟩) (l.length + 1) 1 := by simp [gv]
theorem gm_snoc (id : Nat) (fl : Bool) (l : List AV) (x : AV) : gm id fl (l ++ [x]) = [(id, .cells (l ++ [x]) true fl)] := by simp [gm]

end Go.Det
