/-
  The text of every words, either way, is the document's; the call returns true.
-/
import Derived.Test.YtjaloajnlpepcaaRows
import Derived.Test.YtjaloajnlpepcaaDetS
import Derived.Test.YtjaloajnlpepcaaWrite
namespace Go.Proofs.Ytjaloajnlpepcaa
open Go.Det
set_option maxRecDepth 100000

theorem own_WordsWrite : ownKnob Try.prog.godebug = none := by kernel_rfl
theorem laid_WordsWrite : laidOutB Try.prog = true := by kernel_rfl

theorem lifted_WordsWrite (os : Os) (started : os.Started) (H : Type) (enc : TypeId × Value → H) :
    ReturnsInHanded {} Try.checked os 8 .any (Rows.wordsWriteSpec.pre6 enc Try.prog Try.f8 Rows.wordsWriteRow.domain false) (Rows.wordsWriteSpec.post enc Try.prog Try.f8 false true false false) := by
  refine returnsInHanded_of_change_sized (C := Try.checked) own_WordsWrite started (by kernel_rfl) Try.func8
    (ChangeSpec.witness6 (enc := enc) (C := Try.checked) false ⟨#[], #[.slice none 0 0], []⟩ 8 (by kernel_rfl) (by kernel_rfl) (by kernel_rfl) (by kernel_rfl)) ?_
  intro W base args ds gs before hval hW _ _ _
  exact law_contract (C := Try.checked) (ys := [.sl (.int .u32)]) comp rfl laid_WordsWrite rfl (fun ds h => by
    match ds, h with
    | [d0], _ => rfl) (by kernel_rfl) (by kernel_rfl) rfl (by rfl) ev_WordsWrite W base args ds gs before hval hW

/-- The row. -/
theorem wordsWrite_holds : Rows.WordsWriteSaid :=
  OpenClaim.holds_of_wide 8 Try.f8 rfl rfl rfl rfl rfl rfl rfl ⟨rfl, rfl, rfl, rfl, rfl⟩ rfl rfl rfl rfl rfl (by kernel_rfl) Try.func8 (by kernel_rfl)
    (of_decide_eq_true (by kernel_rfl)) (by unfold Func.isWrapper; first | (rw [if_pos (by decide +kernel)]; kernel_rfl) | (rw [if_neg (by decide +kernel)]; exact ⟨rfl, rfl⟩))
    (fun os started H enc _ => lifted_WordsWrite os started H enc)

#print axioms wordsWrite_holds
end Go.Proofs.Ytjaloajnlpepcaa
