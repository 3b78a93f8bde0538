/-
  The tag of every text, with every key, is the standard's, or the document's error; the call returns true.
-/
import Derived.Test.YtpaagjjgmlmngaaRows
import Derived.Test.YtpaagjjgmlmngaaDetS
import Derived.HandedShaped
import Derived.Test.YtpaagjjgmlmngaaD
namespace Go.Proofs.Ytpaagjjgmlmngaa
open Go.Det
set_option maxRecDepth 100000

theorem own_PolySums : ownKnob Try.prog.godebug = none := by kernel_rfl
theorem laid_PolySums : laidOutB Try.prog = true := by kernel_rfl

theorem lifted_PolySums (os : Os) (started : os.Started) (H : Type) (enc : TypeId × Value → H) :
    ReturnsInHanded {} Try.checked os 5 .any (Rows.polySumsSpec.pre6 enc Try.prog Try.f5 Rows.polySumsRow.domain false) (Rows.polySumsSpec.post enc Try.prog Try.f5 false true false false) := by
  refine returnsInHanded_of_change_shaped (C := Try.checked) own_PolySums started (by kernel_rfl) Try.func5
    (ChangeSpec.witness6 (enc := enc) (C := Try.checked) false ⟨#[], #[.agg #[.int .u8 0, .int .u8 0, .int .u8 0, .int .u8 0, .int .u8 0, .int .u8 0, .int .u8 0, .int .u8 0, .int .u8 0, .int .u8 0, .int .u8 0, .int .u8 0, .int .u8 0, .int .u8 0, .int .u8 0, .int .u8 0, .int .u8 0, .int .u8 0, .int .u8 0, .int .u8 0, .int .u8 0, .int .u8 0, .int .u8 0, .int .u8 0, .int .u8 0, .int .u8 0, .int .u8 0, .int .u8 0, .int .u8 0, .int .u8 0, .int .u8 0, .int .u8 0], .string ByteArray.empty, .string ByteArray.empty], []⟩ 8 (by kernel_rfl) (by kernel_rfl) (by kernel_rfl) (by kernel_rfl)) ?_
  intro W base args ds gs before hval hW _ hsz hsh _
  exact law_contract (C := Try.checked) (ys := [.arr 32 (.int .u8), .str, .str]) comp laid_PolySums rfl (fun ds h => by
    match ds, h with
    | [d0, d1, d2], _ => rfl) (by kernel_rfl) (by kernel_rfl) rfl (by rfl) ev_PolySums W (globs_shaped hsh (by kernel_rfl : hasRows Try.prog = true)) base args ds gs before hval hW hsz

/-- The row. -/
theorem polySums_holds : Rows.PolySumsSaid :=
  OpenClaim.holds_of_wide 5 Try.f5 rfl rfl rfl rfl rfl rfl rfl ⟨rfl, rfl, rfl, rfl, rfl⟩ rfl rfl rfl rfl rfl (by kernel_rfl) Try.func5 (by kernel_rfl)
    (of_decide_eq_true (by kernel_rfl)) (by unfold Func.isWrapper; first | (rw [if_pos (by decide +kernel)]; kernel_rfl) | (rw [if_neg (by decide +kernel)]; exact ⟨rfl, rfl⟩))
    (fun os started H enc _ => lifted_PolySums os started H enc)

#print axioms polySums_holds
end Go.Proofs.Ytpaagjjgmlmngaa
