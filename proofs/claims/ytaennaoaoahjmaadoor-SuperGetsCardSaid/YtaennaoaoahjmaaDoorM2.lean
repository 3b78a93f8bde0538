/-
  The record's law: a record's bytes: the call.
-/
import Derived.Test.YtaennaoaoahjmaaDoorB6
import Derived.Test.YtaennaoaoahjmaaDoorL
set_option maxRecDepth 100000
set_option linter.unusedSimpArgs false
set_option linter.unusedVariables false
namespace Go.Proofs.YtaennaoaoahjmaaDoor
open Go.Det

theorem cnt_good : ∀ (l : List Mb) (b b' : Int), cnt l b = some b' → ∀ m ∈ l, m.st ≥ 0 ∧ m.st < 4 ∧ m.top.length = 32 ∧ m.log.length = 32
  | [], b, b', _, m, hm => by simp at hm
  | x :: l, b, b', h, m, hm => by
    simp only [cnt] at h
    split at h
    · cases h
    · rename_i hb
      rcases List.mem_cons.1 hm with rfl | hm
      · simp only [badM, Bool.or_eq_true, decide_eq_true_eq, not_or] at hb
        obtain ⟨h1, h2, h3, h4⟩ := hb
        refine ⟨by omega, by omega, by omega, by omega⟩
      · exact cnt_good l _ b' h m hm

theorem good_mems {r : Rec} (h : goodP r = true) : ∀ m ∈ r.mems, m.st ≥ 0 ∧ m.st < 4 ∧ m.top.length = 32 ∧ m.log.length = 32 := by
  simp only [goodP, Bool.and_eq_true] at h
  have h2 := h.2.1
  unfold membersP at h2
  cases hc : cnt r.mems 0 with
  | none => rw [hc] at h2; cases h2
  | some b => exact cnt_good _ _ _ hc

def one (g : Bool) : Int := if g then 1 else 0
def head6 (r : Rec) : List Int := [r.data, r.slots, r.mark, r.built, one r.growing, (r.seats.length : Int)]
def putT (r : Rec) : List UInt8 := K.be8 r.count ++ K.be8 r.epoch ++ nums (head6 r ++ r.seats ++ [(r.mems.length : Int)]) ++ mTs r.mems

end Go.Proofs.YtaennaoaoahjmaaDoor
