/-
  Of a nil reader nothing is read; the call returns true.
-/
import Derived.Test.YtkgbceeonmdlgaaRows
import Derived.Test.YtkgbceeonmdlgaaDetS
import Derived.HandedShaped
import Derived.Test.YtkgbceeonmdlgaaB
namespace Go.Proofs.Ytkgbceeonmdlgaa
open Go.Det
set_option maxRecDepth 100000

theorem own_CodecNil : ownKnob Try.prog.godebug = none := by kernel_rfl
theorem laid_CodecNil : laidOutB Try.prog = true := by kernel_rfl

theorem lifted_CodecNil (os : Os) (started : os.Started) (H : Type) (enc : TypeId × Value → H) :
    ReturnsInHanded {} Try.checked os 10 .any (Rows.codecNilSpec.pre6 enc Try.prog Try.f10 Rows.codecNilRow.domain false) (Rows.codecNilSpec.post enc Try.prog Try.f10 false true false false) := by
  refine returnsInHanded_of_change_shaped (C := Try.checked) own_CodecNil started (by kernel_rfl) Try.func10
    (ChangeSpec.witness6 (enc := enc) (C := Try.checked) false ⟨#[], #[.int .i64 0], []⟩ 8 (by kernel_rfl) (by kernel_rfl) (by kernel_rfl) (by kernel_rfl)) ?_
  intro W base args ds gs before hval hW _ hsz hsh _
  exact law_contract (C := Try.checked) (ys := [.int .i64]) comp laid_CodecNil rfl (fun ds h => by
    match ds, h with
    | [d0], _ => rfl) (by kernel_rfl) (by kernel_rfl) rfl (by rfl) ev_CodecNil W (globs_none rfl W) base args ds gs before hval hW hsz

/-- The row. -/
theorem codecNil_holds : Rows.CodecNilSaid :=
  OpenClaim.holds_of_wide 10 Try.f10 rfl rfl rfl rfl rfl rfl rfl ⟨rfl, rfl, rfl, rfl, rfl⟩ rfl rfl rfl rfl rfl (by kernel_rfl) Try.func10 (by kernel_rfl)
    (of_decide_eq_true (by kernel_rfl)) (by unfold Func.isWrapper; first | (rw [if_pos (by decide +kernel)]; kernel_rfl) | (rw [if_neg (by decide +kernel)]; exact ⟨rfl, rfl⟩))
    (fun os started H enc _ => lifted_CodecNil os started H enc)

#print axioms codecNil_holds
end Go.Proofs.Ytkgbceeonmdlgaa
