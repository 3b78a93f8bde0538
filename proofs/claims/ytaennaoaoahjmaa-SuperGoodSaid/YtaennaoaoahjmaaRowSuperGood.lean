/-
  Which records are good, and their bytes, is the document's answer; the call returns true.
-/
import Derived.Test.YtaennaoaoahjmaaRows
import Derived.Test.YtaennaoaoahjmaaDetS
import Derived.HandedShaped
import Derived.Test.YtaennaoaoahjmaaV7
namespace Go.Proofs.Ytaennaoaoahjmaa
open Go.Det
set_option maxRecDepth 100000

theorem own_SuperGood : ownKnob Try.prog.godebug = none := by kernel_rfl
theorem laid_SuperGood : laidOutB Try.prog = true := by kernel_rfl

theorem lifted_SuperGood (os : Os) (started : os.Started) (H : Type) (enc : TypeId × Value → H) :
    ReturnsInHanded {} Try.checked os 3 .any (Rows.superGoodSpec.pre6 enc Try.prog Try.f3 Rows.superGoodRow.domain false) (Rows.superGoodSpec.post enc Try.prog Try.f3 false true false false) := by
  refine returnsInHanded_of_change_shaped (C := Try.checked) own_SuperGood started (by kernel_rfl) Try.func3
    (ChangeSpec.witness6 (enc := enc) (C := Try.checked) false ⟨#[], #[.agg #[.int .u64 0, .int .u64 0, .int .i64 0, .int .i64 0, .int .i64 0, .int .i64 0, .bool false, .slice none 0 0, .slice none 0 0]], []⟩ 8 (by kernel_rfl) (by kernel_rfl) (by kernel_rfl) (by kernel_rfl)) ?_
  intro W base args ds gs before hval hW _ hsz hsh _
  exact law_contract (C := Try.checked) (ys := [rawTy]) comp laid_SuperGood rfl (fun ds h => by
    match ds, h with
    | [d0], _ => rfl) (by kernel_rfl) (by kernel_rfl) rfl (by rfl) ev_SuperGood W (globs_none rfl W) base args ds gs before hval hW hsz

/-- The row. -/
theorem superGood_holds : Rows.SuperGoodSaid :=
  OpenClaim.holds_of_wide 3 Try.f3 rfl rfl rfl rfl rfl rfl rfl ⟨rfl, rfl, rfl, rfl, rfl⟩ rfl rfl rfl rfl rfl (by kernel_rfl) Try.func3 (by kernel_rfl)
    (of_decide_eq_true (by kernel_rfl)) (by unfold Func.isWrapper; first | (rw [if_pos (by decide +kernel)]; kernel_rfl) | (rw [if_neg (by decide +kernel)]; exact ⟨rfl, rfl⟩))
    (fun os started H enc _ => lifted_SuperGood os started H enc)

#print axioms superGood_holds
end Go.Proofs.Ytaennaoaoahjmaa
