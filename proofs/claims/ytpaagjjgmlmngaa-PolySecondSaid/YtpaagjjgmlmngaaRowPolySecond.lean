/-
  The key's second half is added to the tag, as a number of sixteen bytes; the call returns true.
-/
import Derived.Test.YtpaagjjgmlmngaaRows
import Derived.Test.YtpaagjjgmlmngaaDetS
import Derived.HandedShaped
import Derived.Test.YtpaagjjgmlmngaaC
namespace Go.Proofs.Ytpaagjjgmlmngaa
open Go.Det
set_option maxRecDepth 100000

theorem own_PolySecond : ownKnob Try.prog.godebug = none := by kernel_rfl
theorem laid_PolySecond : laidOutB Try.prog = true := by kernel_rfl

theorem lifted_PolySecond (os : Os) (started : os.Started) (H : Type) (enc : TypeId × Value → H) :
    ReturnsInHanded {} Try.checked os 7 .any (Rows.polySecondSpec.pre6 enc Try.prog Try.f7 Rows.polySecondRow.domain false) (Rows.polySecondSpec.post enc Try.prog Try.f7 false true false false) := by
  refine returnsInHanded_of_change_shaped (C := Try.checked) own_PolySecond started (by kernel_rfl) Try.func7
    (ChangeSpec.witness6 (enc := enc) (C := Try.checked) false ⟨#[], #[.agg #[.int .u8 0, .int .u8 0, .int .u8 0, .int .u8 0, .int .u8 0, .int .u8 0, .int .u8 0, .int .u8 0, .int .u8 0, .int .u8 0, .int .u8 0, .int .u8 0, .int .u8 0, .int .u8 0, .int .u8 0, .int .u8 0], .string ByteArray.empty, .agg #[.int .u8 0, .int .u8 0, .int .u8 0, .int .u8 0, .int .u8 0, .int .u8 0, .int .u8 0, .int .u8 0, .int .u8 0, .int .u8 0, .int .u8 0, .int .u8 0, .int .u8 0, .int .u8 0, .int .u8 0, .int .u8 0]], []⟩ 8 (by kernel_rfl) (by kernel_rfl) (by kernel_rfl) (by kernel_rfl)) ?_
  intro W base args ds gs before hval hW _ hsz hsh _
  exact law_contract (C := Try.checked) (ys := [.arr 16 (.int .u8), .str, .arr 16 (.int .u8)]) comp laid_PolySecond rfl (fun ds h => by
    match ds, h with
    | [d0, d1, d2], _ => rfl) (by kernel_rfl) (by kernel_rfl) rfl (by rfl) ev_PolySecond W (globs_shaped hsh (by kernel_rfl : hasRows Try.prog = true)) base args ds gs before hval hW hsz

/-- The row. -/
theorem polySecond_holds : Rows.PolySecondSaid :=
  OpenClaim.holds_of_wide 7 Try.f7 rfl rfl rfl rfl rfl rfl rfl ⟨rfl, rfl, rfl, rfl, rfl⟩ rfl rfl rfl rfl rfl (by kernel_rfl) Try.func7 (by kernel_rfl)
    (of_decide_eq_true (by kernel_rfl)) (by unfold Func.isWrapper; first | (rw [if_pos (by decide +kernel)]; kernel_rfl) | (rw [if_neg (by decide +kernel)]; exact ⟨rfl, rfl⟩))
    (fun os started H enc _ => lifted_PolySecond os started H enc)

#print axioms polySecond_holds
end Go.Proofs.Ytpaagjjgmlmngaa
