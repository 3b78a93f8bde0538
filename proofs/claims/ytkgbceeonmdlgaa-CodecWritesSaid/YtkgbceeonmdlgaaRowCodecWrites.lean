/-
  Every number, and every text, is written as the document says; the call returns true.
-/
import Derived.Test.YtkgbceeonmdlgaaRows
import Derived.Test.YtkgbceeonmdlgaaDetS
import Derived.HandedShaped
import Derived.Test.YtkgbceeonmdlgaaB
namespace Go.Proofs.Ytkgbceeonmdlgaa
open Go.Det
set_option maxRecDepth 100000

theorem own_CodecWrites : ownKnob Try.prog.godebug = none := by kernel_rfl
theorem laid_CodecWrites : laidOutB Try.prog = true := by kernel_rfl

theorem lifted_CodecWrites (os : Os) (started : os.Started) (H : Type) (enc : TypeId × Value → H) :
    ReturnsInHanded {} Try.checked os 5 .any (Rows.codecWritesSpec.pre6 enc Try.prog Try.f5 Rows.codecWritesRow.domain false) (Rows.codecWritesSpec.post enc Try.prog Try.f5 false true false false) := by
  refine returnsInHanded_of_change_shaped (C := Try.checked) own_CodecWrites started (by kernel_rfl) Try.func5
    (ChangeSpec.witness6 (enc := enc) (C := Try.checked) false ⟨#[], #[.int .u64 0, .string ByteArray.empty], []⟩ 8 (by kernel_rfl) (by kernel_rfl) (by kernel_rfl) (by kernel_rfl)) ?_
  intro W base args ds gs before hval hW _ hsz hsh _
  exact law_contract (C := Try.checked) (ys := [.int .u64, .str]) comp laid_CodecWrites rfl (fun ds h => by
    match ds, h with
    | [d0, d1], _ => rfl) (by kernel_rfl) (by kernel_rfl) rfl (by rfl) ev_CodecWrites W (globs_none rfl W) base args ds gs before hval hW hsz

/-- The row. -/
theorem codecWrites_holds : Rows.CodecWritesSaid :=
  OpenClaim.holds_of_wide 5 Try.f5 rfl rfl rfl rfl rfl rfl rfl ⟨rfl, rfl, rfl, rfl, rfl⟩ rfl rfl rfl rfl rfl (by kernel_rfl) Try.func5 (by kernel_rfl)
    (of_decide_eq_true (by kernel_rfl)) (by unfold Func.isWrapper; first | (rw [if_pos (by decide +kernel)]; kernel_rfl) | (rw [if_neg (by decide +kernel)]; exact ⟨rfl, rfl⟩))
    (fun os started H enc _ => lifted_CodecWrites os started H enc)

#print axioms codecWrites_holds
end Go.Proofs.Ytkgbceeonmdlgaa
