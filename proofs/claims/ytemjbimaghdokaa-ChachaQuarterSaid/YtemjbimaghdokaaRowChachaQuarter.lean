/-
  A quarter of a round of every words is the standard's; the call returns true.
-/
import Derived.Test.YtemjbimaghdokaaRows
import Derived.Test.YtemjbimaghdokaaDetS
import Derived.HandedShaped
import Derived.Test.YtemjbimaghdokaaQ
namespace Go.Proofs.Ytemjbimaghdokaa
open Go.Det
set_option maxRecDepth 100000

theorem own_ChachaQuarter : ownKnob Try.prog.godebug = none := by kernel_rfl
theorem laid_ChachaQuarter : laidOutB Try.prog = true := by kernel_rfl

theorem lifted_ChachaQuarter (os : Os) (started : os.Started) (H : Type) (enc : TypeId × Value → H) :
    ReturnsInHanded {} Try.checked os 3 .any (Rows.chachaQuarterSpec.pre6 enc Try.prog Try.f3 Rows.chachaQuarterRow.domain false) (Rows.chachaQuarterSpec.post enc Try.prog Try.f3 false true false false) := by
  refine returnsInHanded_of_change_shaped (C := Try.checked) own_ChachaQuarter started (by kernel_rfl) Try.func3
    (ChangeSpec.witness6 (enc := enc) (C := Try.checked) false ⟨#[], #[.agg #[.int .u32 0, .int .u32 0, .int .u32 0, .int .u32 0]], []⟩ 8 (by kernel_rfl) (by kernel_rfl) (by kernel_rfl) (by kernel_rfl)) ?_
  intro W base args ds gs before hval hW _ hsz hsh _
  exact law_contract (C := Try.checked) (ys := [.arr 4 (.int .u32)]) comp laid_ChachaQuarter rfl (fun ds h => by
    match ds, h with
    | [d0], _ => rfl) (by kernel_rfl) (by kernel_rfl) rfl (by rfl) ev_ChachaQuarter W (globs_none rfl W) base args ds gs before hval hW hsz

/-- The row. -/
theorem chachaQuarter_holds : Rows.ChachaQuarterSaid :=
  OpenClaim.holds_of_wide 3 Try.f3 rfl rfl rfl rfl rfl rfl rfl ⟨rfl, rfl, rfl, rfl, rfl⟩ rfl rfl rfl rfl rfl (by kernel_rfl) Try.func3 (by kernel_rfl)
    (of_decide_eq_true (by kernel_rfl)) (by unfold Func.isWrapper; first | (rw [if_pos (by decide +kernel)]; kernel_rfl) | (rw [if_neg (by decide +kernel)]; exact ⟨rfl, rfl⟩))
    (fun os started H enc _ => lifted_ChachaQuarter os started H enc)

#print axioms chachaQuarter_holds
end Go.Proofs.Ytemjbimaghdokaa
