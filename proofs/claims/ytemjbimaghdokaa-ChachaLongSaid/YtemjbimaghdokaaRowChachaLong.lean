/-
  A text that is too long is refused, and one as long as may be isn't; the call returns true.
-/
import Derived.Test.YtemjbimaghdokaaRows
import Derived.Test.YtemjbimaghdokaaDetS
import Derived.HandedShaped
import Derived.Test.YtemjbimaghdokaaB
namespace Go.Proofs.Ytemjbimaghdokaa
open Go.Det
set_option maxRecDepth 100000

theorem own_ChachaLong : ownKnob Try.prog.godebug = none := by kernel_rfl
theorem laid_ChachaLong : laidOutB Try.prog = true := by kernel_rfl

theorem lifted_ChachaLong (os : Os) (started : os.Started) (H : Type) (enc : TypeId × Value → H) :
    ReturnsInHanded {} Try.checked os 9 .any (Rows.chachaLongSpec.pre6 enc Try.prog Try.f9 Rows.chachaLongRow.domain false) (Rows.chachaLongSpec.post enc Try.prog Try.f9 false true false false) := by
  refine returnsInHanded_of_change_shaped (C := Try.checked) own_ChachaLong started (by kernel_rfl) Try.func9
    (ChangeSpec.witness6 (enc := enc) (C := Try.checked) false ⟨#[], #[.agg #[.int .u8 0, .int .u8 0, .int .u8 0, .int .u8 0, .int .u8 0, .int .u8 0, .int .u8 0, .int .u8 0, .int .u8 0, .int .u8 0, .int .u8 0, .int .u8 0, .int .u8 0, .int .u8 0, .int .u8 0, .int .u8 0, .int .u8 0, .int .u8 0, .int .u8 0, .int .u8 0, .int .u8 0, .int .u8 0, .int .u8 0, .int .u8 0, .int .u8 0, .int .u8 0, .int .u8 0, .int .u8 0, .int .u8 0, .int .u8 0, .int .u8 0, .int .u8 0, .int .u8 0, .int .u8 0, .int .u8 0, .int .u8 0, .int .u8 0, .int .u8 0, .int .u8 0, .int .u8 0, .int .u8 0, .int .u8 0, .int .u8 0, .int .u8 0, .int .i64 0], .int .u8 0], []⟩ 8 (by kernel_rfl) (by kernel_rfl) (by kernel_rfl) (by kernel_rfl)) ?_
  intro W base args ds gs before hval hW _ hsz hsh _
  exact law_contract (C := Try.checked) (ys := [.st [.arr 32 (.int .u8), .arr 12 (.int .u8), .int .i64], .int .u8]) comp laid_ChachaLong rfl (fun ds h => by
    match ds, h with
    | [d0, d1], _ => rfl) (by kernel_rfl) (by kernel_rfl) rfl (by rfl) ev_ChachaLong W (globs_none rfl W) base args ds gs before hval hW hsz

/-- The row. -/
theorem chachaLong_holds : Rows.ChachaLongSaid :=
  OpenClaim.holds_of_wide 9 Try.f9 rfl rfl rfl rfl rfl rfl rfl ⟨rfl, rfl, rfl, rfl, rfl⟩ rfl rfl rfl rfl rfl (by kernel_rfl) Try.func9 (by kernel_rfl)
    (of_decide_eq_true (by kernel_rfl)) (by unfold Func.isWrapper; first | (rw [if_pos (by decide +kernel)]; kernel_rfl) | (rw [if_neg (by decide +kernel)]; exact ⟨rfl, rfl⟩))
    (fun os started H enc _ => lifted_ChachaLong os started H enc)

#print axioms chachaLong_holds
end Go.Proofs.Ytemjbimaghdokaa
