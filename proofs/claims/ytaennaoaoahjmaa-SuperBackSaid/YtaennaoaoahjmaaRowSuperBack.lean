/-
  A good record is read back from its bytes; nothing is read of fewer, or of more; the call returns true.
-/
import Derived.Test.YtaennaoaoahjmaaRows
import Derived.Test.YtaennaoaoahjmaaDetS
import Derived.HandedShaped
import Derived.Test.YtaennaoaoahjmaaU
namespace Go.Proofs.Ytaennaoaoahjmaa
open Go.Det
set_option maxRecDepth 100000

theorem own_SuperBack : ownKnob Try.prog.godebug = none := by kernel_rfl
theorem laid_SuperBack : laidOutB Try.prog = true := by kernel_rfl

theorem lifted_SuperBack (os : Os) (started : os.Started) (H : Type) (enc : TypeId × Value → H) :
    ReturnsInHanded {} Try.checked os 4 .any (Rows.superBackSpec.pre6 enc Try.prog Try.f4 Rows.superBackRow.domain false) (Rows.superBackSpec.post enc Try.prog Try.f4 false true false false) := by
  refine returnsInHanded_of_change_shaped (C := Try.checked) own_SuperBack started (by kernel_rfl) Try.func4
    (ChangeSpec.witness6 (enc := enc) (C := Try.checked) false ⟨#[], #[.agg #[.int .u64 0, .int .u64 0, .int .i64 0, .int .i64 0, .int .i64 0, .int .i64 0, .bool false, .slice none 0 0, .slice none 0 0], .int .i64 0], []⟩ 8 (by kernel_rfl) (by kernel_rfl) (by kernel_rfl) (by kernel_rfl)) ?_
  intro W base args ds gs before hval hW _ hsz hsh _
  exact law_contract (C := Try.checked) (ys := [rawTy, .int .i64]) comp laid_SuperBack rfl (fun ds h => by
    match ds, h with
    | [d0, d1], _ => rfl) (by kernel_rfl) (by kernel_rfl) rfl (by rfl) ev_SuperBack W (globs_none rfl W) base args ds gs before hval hW hsz

/-- The row. -/
theorem superBack_holds : Rows.SuperBackSaid :=
  OpenClaim.holds_of_wide 4 Try.f4 rfl rfl rfl rfl rfl rfl rfl ⟨rfl, rfl, rfl, rfl, rfl⟩ rfl rfl rfl rfl rfl (by kernel_rfl) Try.func4 (by kernel_rfl)
    (of_decide_eq_true (by kernel_rfl)) (by unfold Func.isWrapper; first | (rw [if_pos (by decide +kernel)]; kernel_rfl) | (rw [if_neg (by decide +kernel)]; exact ⟨rfl, rfl⟩))
    (fun os started H enc _ => lifted_SuperBack os started H enc)

#print axioms superBack_holds
end Go.Proofs.Ytaennaoaoahjmaa
