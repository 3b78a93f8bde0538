/-
  Turning by two numbers of places is turning by both; the call returns true.
-/
import Derived.Test.YtjaloajnlpepcaaRows
import Derived.Test.YtjaloajnlpepcaaDetS
import Derived.Test.YtjaloajnlpepcaaTurn
namespace Go.Proofs.Ytjaloajnlpepcaa
open Go.Det
set_option maxRecDepth 100000

theorem own_WordsTurns : ownKnob Try.prog.godebug = none := by kernel_rfl
theorem laid_WordsTurns : laidOutB Try.prog = true := by kernel_rfl

theorem lifted_WordsTurns (os : Os) (started : os.Started) (H : Type) (enc : TypeId × Value → H) :
    ReturnsInHanded {} Try.checked os 7 .any (Rows.wordsTurnsSpec.pre6 enc Try.prog Try.f7 Rows.wordsTurnsRow.domain false) (Rows.wordsTurnsSpec.post enc Try.prog Try.f7 false true false false) := by
  refine returnsInHanded_of_change_sized (C := Try.checked) own_WordsTurns started (by kernel_rfl) Try.func7
    (ChangeSpec.witness6 (enc := enc) (C := Try.checked) false ⟨#[], #[.int .u32 0, .int .i64 0, .int .i64 0], []⟩ 8 (by kernel_rfl) (by kernel_rfl) (by kernel_rfl) (by kernel_rfl)) ?_
  intro W base args ds gs before hval hW _ _ _
  exact law_contract (C := Try.checked) (ys := [.int .u32, .int .i64, .int .i64]) comp rfl laid_WordsTurns rfl (fun ds h => by
    match ds, h with
    | [d0, d1, d2], _ => rfl) (by kernel_rfl) (by kernel_rfl) rfl (by rfl) ev_WordsTurns W base args ds gs before hval hW

/-- The row. -/
theorem wordsTurns_holds : Rows.WordsTurnsSaid :=
  OpenClaim.holds_of_wide 7 Try.f7 rfl rfl rfl rfl rfl rfl rfl ⟨rfl, rfl, rfl, rfl, rfl⟩ rfl rfl rfl rfl rfl (by kernel_rfl) Try.func7 (by kernel_rfl)
    (of_decide_eq_true (by kernel_rfl)) (by unfold Func.isWrapper; first | (rw [if_pos (by decide +kernel)]; kernel_rfl) | (rw [if_neg (by decide +kernel)]; exact ⟨rfl, rfl⟩))
    (fun os started H enc _ => lifted_WordsTurns os started H enc)

#print axioms wordsTurns_holds
end Go.Proofs.Ytjaloajnlpepcaa
