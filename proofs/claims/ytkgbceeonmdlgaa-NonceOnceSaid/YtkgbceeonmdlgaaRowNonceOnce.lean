/-
  No two numbers that are told by sources of unlike epochs, or by one source, are the same, and each is read back; the call returns true.
-/
import Derived.Test.YtkgbceeonmdlgaaRows
import Derived.Test.YtkgbceeonmdlgaaDetS
import Derived.HandedShaped
import Derived.Test.YtkgbceeonmdlgaaO
namespace Go.Proofs.Ytkgbceeonmdlgaa
open Go.Det
set_option maxRecDepth 100000

theorem own_NonceOnce : ownKnob Try.prog.godebug = none := by kernel_rfl
theorem laid_NonceOnce : laidOutB Try.prog = true := by kernel_rfl

theorem lifted_NonceOnce (os : Os) (started : os.Started) (H : Type) (enc : TypeId × Value → H) :
    ReturnsInHanded {} Try.checked os 12 .any (Rows.nonceOnceSpec.pre6 enc Try.prog Try.f12 Rows.nonceOnceRow.domain false) (Rows.nonceOnceSpec.post enc Try.prog Try.f12 false true false false) := by
  refine returnsInHanded_of_change_shaped (C := Try.checked) own_NonceOnce started (by kernel_rfl) Try.func12
    (ChangeSpec.witness6 (enc := enc) (C := Try.checked) false ⟨#[], #[.slice none 0 0, .int .u32 0, .int .i64 0], []⟩ 8 (by kernel_rfl) (by kernel_rfl) (by kernel_rfl) (by kernel_rfl)) ?_
  intro W base args ds gs before hval hW _ hsz hsh _
  exact law_contract (C := Try.checked) (ys := [.sl (.int .u32), .int .u32, .int .i64]) comp laid_NonceOnce rfl (fun ds h => by
    match ds, h with
    | [d0, d1, d2], _ => rfl) (by kernel_rfl) (by kernel_rfl) rfl (by rfl) ev_NonceOnce W (globs_none rfl W) base args ds gs before hval hW hsz

/-- The row. -/
theorem nonceOnce_holds : Rows.NonceOnceSaid :=
  OpenClaim.holds_of_wide 12 Try.f12 rfl rfl rfl rfl rfl rfl rfl ⟨rfl, rfl, rfl, rfl, rfl⟩ rfl rfl rfl rfl rfl (by kernel_rfl) Try.func12 (by kernel_rfl)
    (of_decide_eq_true (by kernel_rfl)) (by unfold Func.isWrapper; first | (rw [if_pos (by decide +kernel)]; kernel_rfl) | (rw [if_neg (by decide +kernel)]; exact ⟨rfl, rfl⟩))
    (fun os started H enc _ => lifted_NonceOnce os started H enc)

#print axioms nonceOnce_holds
end Go.Proofs.Ytkgbceeonmdlgaa
