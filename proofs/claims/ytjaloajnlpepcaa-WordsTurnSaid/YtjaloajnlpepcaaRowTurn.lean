/-
  Words turned, either way, by any number of places, are the document's; the call returns true.
-/
import Derived.Test.YtjaloajnlpepcaaRows
import Derived.Test.YtjaloajnlpepcaaDetS
import Derived.Test.YtjaloajnlpepcaaTurn
namespace Go.Proofs.Ytjaloajnlpepcaa
open Go.Det
set_option maxRecDepth 100000

theorem own_WordsTurn : ownKnob Try.prog.godebug = none := by kernel_rfl
theorem laid_WordsTurn : laidOutB Try.prog = true := by kernel_rfl

theorem lifted_WordsTurn (os : Os) (started : os.Started) (H : Type) (enc : TypeId × Value → H) :
    ReturnsInHanded {} Try.checked os 6 .any (Rows.wordsTurnSpec.pre6 enc Try.prog Try.f6 Rows.wordsTurnRow.domain false) (Rows.wordsTurnSpec.post enc Try.prog Try.f6 false true false false) := by
  refine returnsInHanded_of_change_sized (C := Try.checked) own_WordsTurn started (by kernel_rfl) Try.func6
    (ChangeSpec.witness6 (enc := enc) (C := Try.checked) false ⟨#[], #[.int .u32 0, .int .i64 0], []⟩ 8 (by kernel_rfl) (by kernel_rfl) (by kernel_rfl) (by kernel_rfl)) ?_
  intro W base args ds gs before hval hW _ _ _
  exact law_contract (C := Try.checked) (ys := [.int .u32, .int .i64]) comp rfl laid_WordsTurn rfl (fun ds h => by
    match ds, h with
    | [d0, d1], _ => rfl) (by kernel_rfl) (by kernel_rfl) rfl (by rfl) ev_WordsTurn W base args ds gs before hval hW

/-- The row. -/
theorem wordsTurn_holds : Rows.WordsTurnSaid :=
  OpenClaim.holds_of_wide 6 Try.f6 rfl rfl rfl rfl rfl rfl rfl ⟨rfl, rfl, rfl, rfl, rfl⟩ rfl rfl rfl rfl rfl (by kernel_rfl) Try.func6 (by kernel_rfl)
    (of_decide_eq_true (by kernel_rfl)) (by unfold Func.isWrapper; first | (rw [if_pos (by decide +kernel)]; kernel_rfl) | (rw [if_neg (by decide +kernel)]; exact ⟨rfl, rfl⟩))
    (fun os started H enc _ => lifted_WordsTurn os started H enc)

#print axioms wordsTurn_holds
end Go.Proofs.Ytjaloajnlpepcaa
