/-
  What was turned is turned back; words are read back from their text; the call returns true.
-/
import Derived.Test.YtjaloajnlpepcaaRows
import Derived.Test.YtjaloajnlpepcaaDetS
import Derived.Test.YtjaloajnlpepcaaWrite
namespace Go.Proofs.Ytjaloajnlpepcaa
open Go.Det
set_option maxRecDepth 100000

theorem own_WordsBack : ownKnob Try.prog.godebug = none := by kernel_rfl
theorem laid_WordsBack : laidOutB Try.prog = true := by kernel_rfl

theorem lifted_WordsBack (os : Os) (started : os.Started) (H : Type) (enc : TypeId × Value → H) :
    ReturnsInHanded {} Try.checked os 9 .any (Rows.wordsBackSpec.pre6 enc Try.prog Try.f9 Rows.wordsBackRow.domain false) (Rows.wordsBackSpec.post enc Try.prog Try.f9 false true false false) := by
  refine returnsInHanded_of_change_sized (C := Try.checked) own_WordsBack started (by kernel_rfl) Try.func9
    (ChangeSpec.witness6 (enc := enc) (C := Try.checked) false ⟨#[], #[.int .u32 0, .int .i64 0, .slice none 0 0], []⟩ 8 (by kernel_rfl) (by kernel_rfl) (by kernel_rfl) (by kernel_rfl)) ?_
  intro W base args ds gs before hval hW _ _ _
  exact law_contract (C := Try.checked) (ys := [.int .u32, .int .i64, .sl (.int .u32)]) comp rfl laid_WordsBack rfl (fun ds h => by
    match ds, h with
    | [d0, d1, d2], _ => rfl) (by kernel_rfl) (by kernel_rfl) rfl (by rfl) ev_WordsBack W base args ds gs before hval hW

/-- The row. -/
theorem wordsBack_holds : Rows.WordsBackSaid :=
  OpenClaim.holds_of_wide 9 Try.f9 rfl rfl rfl rfl rfl rfl rfl ⟨rfl, rfl, rfl, rfl, rfl⟩ rfl rfl rfl rfl rfl (by kernel_rfl) Try.func9 (by kernel_rfl)
    (of_decide_eq_true (by kernel_rfl)) (by unfold Func.isWrapper; first | (rw [if_pos (by decide +kernel)]; kernel_rfl) | (rw [if_neg (by decide +kernel)]; exact ⟨rfl, rfl⟩))
    (fun os started H enc _ => lifted_WordsBack os started H enc)

#print axioms wordsBack_holds
end Go.Proofs.Ytjaloajnlpepcaa
