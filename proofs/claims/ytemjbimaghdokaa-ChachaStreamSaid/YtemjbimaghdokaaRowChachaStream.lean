/-
  What two texts differ in they differ in when combined, too; the call returns true.
-/
import Derived.Test.YtemjbimaghdokaaRows
import Derived.Test.YtemjbimaghdokaaDetS
import Derived.HandedShaped
import Derived.Test.YtemjbimaghdokaaB
namespace Go.Proofs.Ytemjbimaghdokaa
open Go.Det
set_option maxRecDepth 100000

theorem own_ChachaStream : ownKnob Try.prog.godebug = none := by kernel_rfl
theorem laid_ChachaStream : laidOutB Try.prog = true := by kernel_rfl

theorem lifted_ChachaStream (os : Os) (started : os.Started) (H : Type) (enc : TypeId × Value → H) :
    ReturnsInHanded {} Try.checked os 8 .any (Rows.chachaStreamSpec.pre6 enc Try.prog Try.f8 Rows.chachaStreamRow.domain false) (Rows.chachaStreamSpec.post enc Try.prog Try.f8 false true false false) := by
  refine returnsInHanded_of_change_shaped (C := Try.checked) own_ChachaStream started (by kernel_rfl) Try.func8
    (ChangeSpec.witness6 (enc := enc) (C := Try.checked) false ⟨#[], #[.agg #[.int .u8 0, .int .u8 0, .int .u8 0, .int .u8 0, .int .u8 0, .int .u8 0, .int .u8 0, .int .u8 0, .int .u8 0, .int .u8 0, .int .u8 0, .int .u8 0, .int .u8 0, .int .u8 0, .int .u8 0, .int .u8 0, .int .u8 0, .int .u8 0, .int .u8 0, .int .u8 0, .int .u8 0, .int .u8 0, .int .u8 0, .int .u8 0, .int .u8 0, .int .u8 0, .int .u8 0, .int .u8 0, .int .u8 0, .int .u8 0, .int .u8 0, .int .u8 0, .int .u8 0, .int .u8 0, .int .u8 0, .int .u8 0, .int .u8 0, .int .u8 0, .int .u8 0, .int .u8 0, .int .u8 0, .int .u8 0, .int .u8 0, .int .u8 0, .int .i64 0], .string ByteArray.empty, .string ByteArray.empty], []⟩ 8 (by kernel_rfl) (by kernel_rfl) (by kernel_rfl) (by kernel_rfl)) ?_
  intro W base args ds gs before hval hW _ hsz hsh _
  exact law_contract (C := Try.checked) (ys := [.st [.arr 32 (.int .u8), .arr 12 (.int .u8), .int .i64], .str, .str]) comp laid_ChachaStream rfl (fun ds h => by
    match ds, h with
    | [d0, d1, d2], _ => rfl) (by kernel_rfl) (by kernel_rfl) rfl (by rfl) ev_ChachaStream W (globs_none rfl W) base args ds gs before hval hW hsz

/-- The row. -/
theorem chachaStream_holds : Rows.ChachaStreamSaid :=
  OpenClaim.holds_of_wide 8 Try.f8 rfl rfl rfl rfl rfl rfl rfl ⟨rfl, rfl, rfl, rfl, rfl⟩ rfl rfl rfl rfl rfl (by kernel_rfl) Try.func8 (by kernel_rfl)
    (of_decide_eq_true (by kernel_rfl)) (by unfold Func.isWrapper; first | (rw [if_pos (by decide +kernel)]; kernel_rfl) | (rw [if_neg (by decide +kernel)]; exact ⟨rfl, rfl⟩))
    (fun os started H enc _ => lifted_ChachaStream os started H enc)

#print axioms chachaStream_holds
end Go.Proofs.Ytemjbimaghdokaa
