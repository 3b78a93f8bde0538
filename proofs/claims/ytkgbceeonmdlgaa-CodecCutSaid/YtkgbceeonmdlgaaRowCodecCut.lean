/-
  What is cut off is met as that, at whichever place, and an error that was met stays; the call returns true.
-/
import Derived.Test.YtkgbceeonmdlgaaRows
import Derived.Test.YtkgbceeonmdlgaaDetS
import Derived.HandedShaped
import Derived.Test.YtkgbceeonmdlgaaD
namespace Go.Proofs.Ytkgbceeonmdlgaa
open Go.Det
set_option maxRecDepth 100000

theorem own_CodecCut : ownKnob Try.prog.godebug = none := by kernel_rfl
theorem laid_CodecCut : laidOutB Try.prog = true := by kernel_rfl

theorem lifted_CodecCut (os : Os) (started : os.Started) (H : Type) (enc : TypeId × Value → H) :
    ReturnsInHanded {} Try.checked os 9 .any (Rows.codecCutSpec.pre6 enc Try.prog Try.f9 Rows.codecCutRow.domain false) (Rows.codecCutSpec.post enc Try.prog Try.f9 false true false false) := by
  refine returnsInHanded_of_change_shaped (C := Try.checked) own_CodecCut started (by kernel_rfl) Try.func9
    (ChangeSpec.witness6 (enc := enc) (C := Try.checked) false ⟨#[], #[.slice none 0 0, .int .i64 0], []⟩ 8 (by kernel_rfl) (by kernel_rfl) (by kernel_rfl) (by kernel_rfl)) ?_
  intro W base args ds gs before hval hW _ hsz hsh _
  exact law_contract (C := Try.checked) (ys := [.sl .str, .int .i64]) comp laid_CodecCut rfl (fun ds h => by
    match ds, h with
    | [d0, d1], _ => rfl) (by kernel_rfl) (by kernel_rfl) rfl (by rfl) ev_CodecCut W (globs_none rfl W) base args ds gs before hval hW hsz

/-- The row. -/
theorem codecCut_holds : Rows.CodecCutSaid :=
  OpenClaim.holds_of_wide 9 Try.f9 rfl rfl rfl rfl rfl rfl rfl ⟨rfl, rfl, rfl, rfl, rfl⟩ rfl rfl rfl rfl rfl (by kernel_rfl) Try.func9 (by kernel_rfl)
    (of_decide_eq_true (by kernel_rfl)) (by unfold Func.isWrapper; first | (rw [if_pos (by decide +kernel)]; kernel_rfl) | (rw [if_neg (by decide +kernel)]; exact ⟨rfl, rfl⟩))
    (fun os started H enc _ => lifted_CodecCut os started H enc)

#print axioms codecCut_holds
end Go.Proofs.Ytkgbceeonmdlgaa
