/-
  The epoch and the number of every text are the document's, or its error; the call returns true.
-/
import Derived.Test.YtkgbceeonmdlgaaRows
import Derived.Test.YtkgbceeonmdlgaaDetS
import Derived.HandedShaped
import Derived.Test.YtkgbceeonmdlgaaT
namespace Go.Proofs.Ytkgbceeonmdlgaa
open Go.Det
set_option maxRecDepth 100000

theorem own_NonceReads : ownKnob Try.prog.godebug = none := by kernel_rfl
theorem laid_NonceReads : laidOutB Try.prog = true := by kernel_rfl

theorem lifted_NonceReads (os : Os) (started : os.Started) (H : Type) (enc : TypeId × Value → H) :
    ReturnsInHanded {} Try.checked os 11 .any (Rows.nonceReadsSpec.pre6 enc Try.prog Try.f11 Rows.nonceReadsRow.domain false) (Rows.nonceReadsSpec.post enc Try.prog Try.f11 false true false false) := by
  refine returnsInHanded_of_change_shaped (C := Try.checked) own_NonceReads started (by kernel_rfl) Try.func11
    (ChangeSpec.witness6 (enc := enc) (C := Try.checked) false ⟨#[], #[.agg #[.int .u8 0, .int .u8 0, .int .u8 0, .int .u8 0, .int .u8 0, .int .u8 0, .int .u8 0, .int .u8 0, .int .u8 0, .int .u8 0, .int .u8 0, .int .u8 0], .string ByteArray.empty], []⟩ 8 (by kernel_rfl) (by kernel_rfl) (by kernel_rfl) (by kernel_rfl)) ?_
  intro W base args ds gs before hval hW _ hsz hsh _
  exact law_contract (C := Try.checked) (ys := [.arr 12 (.int .u8), .str]) comp laid_NonceReads rfl (fun ds h => by
    match ds, h with
    | [d0, d1], _ => rfl) (by kernel_rfl) (by kernel_rfl) rfl (by rfl) ev_NonceReads W (globs_none rfl W) base args ds gs before hval hW hsz

/-- The row. -/
theorem nonceReads_holds : Rows.NonceReadsSaid :=
  OpenClaim.holds_of_wide 11 Try.f11 rfl rfl rfl rfl rfl rfl rfl ⟨rfl, rfl, rfl, rfl, rfl⟩ rfl rfl rfl rfl rfl (by kernel_rfl) Try.func11 (by kernel_rfl)
    (of_decide_eq_true (by kernel_rfl)) (by unfold Func.isWrapper; first | (rw [if_pos (by decide +kernel)]; kernel_rfl) | (rw [if_neg (by decide +kernel)]; exact ⟨rfl, rfl⟩))
    (fun os started H enc _ => lifted_NonceReads os started H enc)

#print axioms nonceReads_holds
end Go.Proofs.Ytkgbceeonmdlgaa
