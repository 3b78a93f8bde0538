/-
  The first half of every key, as it is used, is the document's, or its error; the call returns true.
-/
import Derived.Test.YtpaagjjgmlmngaaRows
import Derived.Test.YtpaagjjgmlmngaaDetS
import Derived.HandedShaped
import Derived.Test.YtpaagjjgmlmngaaB
namespace Go.Proofs.Ytpaagjjgmlmngaa
open Go.Det
set_option maxRecDepth 100000

theorem own_PolyClamps : ownKnob Try.prog.godebug = none := by kernel_rfl
theorem laid_PolyClamps : laidOutB Try.prog = true := by kernel_rfl

theorem lifted_PolyClamps (os : Os) (started : os.Started) (H : Type) (enc : TypeId × Value → H) :
    ReturnsInHanded {} Try.checked os 4 .any (Rows.polyClampsSpec.pre6 enc Try.prog Try.f4 Rows.polyClampsRow.domain false) (Rows.polyClampsSpec.post enc Try.prog Try.f4 false true false false) := by
  refine returnsInHanded_of_change_shaped (C := Try.checked) own_PolyClamps started (by kernel_rfl) Try.func4
    (ChangeSpec.witness6 (enc := enc) (C := Try.checked) false ⟨#[], #[.agg #[.int .u8 0, .int .u8 0, .int .u8 0, .int .u8 0, .int .u8 0, .int .u8 0, .int .u8 0, .int .u8 0, .int .u8 0, .int .u8 0, .int .u8 0, .int .u8 0, .int .u8 0, .int .u8 0, .int .u8 0, .int .u8 0], .string ByteArray.empty], []⟩ 8 (by kernel_rfl) (by kernel_rfl) (by kernel_rfl) (by kernel_rfl)) ?_
  intro W base args ds gs before hval hW _ hsz hsh _
  exact law_contract (C := Try.checked) (ys := [.arr 16 (.int .u8), .str]) comp laid_PolyClamps rfl (fun ds h => by
    match ds, h with
    | [d0, d1], _ => rfl) (by kernel_rfl) (by kernel_rfl) rfl (by rfl) ev_PolyClamps W (globs_shaped hsh (by kernel_rfl : hasRows Try.prog = true)) base args ds gs before hval hW hsz

/-- The row. -/
theorem polyClamps_holds : Rows.PolyClampsSaid :=
  OpenClaim.holds_of_wide 4 Try.f4 rfl rfl rfl rfl rfl rfl rfl ⟨rfl, rfl, rfl, rfl, rfl⟩ rfl rfl rfl rfl rfl (by kernel_rfl) Try.func4 (by kernel_rfl)
    (of_decide_eq_true (by kernel_rfl)) (by unfold Func.isWrapper; first | (rw [if_pos (by decide +kernel)]; kernel_rfl) | (rw [if_neg (by decide +kernel)]; exact ⟨rfl, rfl⟩))
    (fun os started H enc _ => lifted_PolyClamps os started H enc)

#print axioms polyClamps_holds
end Go.Proofs.Ytpaagjjgmlmngaa
